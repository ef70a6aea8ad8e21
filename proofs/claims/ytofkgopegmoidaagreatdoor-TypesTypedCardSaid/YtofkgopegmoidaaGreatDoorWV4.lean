/- A part of an evaluator of the program's operations over values that are known whole or in part, and of the proof that what it answers holds of the program's run. No condition. -/
import Derived.Test.YtofkgopegmoidaaGreatDoorWV2
namespace T1
open Go Go.Ab Go.Proofs
open Go.RowKit (Below)
noncomputable section
/-! types.typed at one node, what it says of the arguments known -/
def oneK (k : Nat) (tab : List (Nat × AV)) (_ : Tr AB) (_ : Nat) (l : List AV) : ConR := res0 (lE l none (fun x l => lE l (oE (opsAt k x) none (fun a => List.rec (motive := fun _ => Option AV) none (fun p _ ih => pE p (fun i v => bE (Nat.beq i a) (some v) ih)) tab)) (fun _ _ => none)))
def tabTy : List Nat → Nat → List (Nat × AV)
  | [], _ => []
  | t :: l, a => (a, .tup [.int .i64 (.ofNat t), .nils, .bool true]) :: tabTy l (a + 7)
def exR (op l : Nat) : AV := .agg [.int .i64 (.ofNat op), .any, .any, .any, .any, .any, slA 12 l]
def hR (l : Nat) : Tr AB := nE l .lf (fun k => Tr.lf.set 12 (.cells .ro (opsL 20 (7 * (k + 1)))))
def conTy (ts : List Nat) : Tr (Tr AB → Nat → List AV → ConR) := Tr.lf.set 59 (oneK 7 (tabTy ts 20))
def ETy (ts : List Nat) : Env := ⟨fnT, tyT, exT, conTy ts⟩
def isTyV (t : Nat) (v : AV) : Bool := match v with
  | .tup [.int .i64 (.ofNat n), .nils, .bool true] => Nat.beq n t
  | _ => false
def isTy (t : Nat) (r : Out) : Bool := okE r false (fun v _ _ _ => isTyV t v)
def tyChk (op : Nat) (ts : List Nat) (t : Nat) : Bool := isTy t (enter (ETy ts) (exec (ETy ts) 2000) ⟨.lf, hR ts.length, 70, 70, []⟩ [exR op ts.length] Tryz.f59 (bodyOf Tryz.f59))
theorem yl : allB' (fun p => pE p (fun op t => tyChk op [] t)) [(1, 2), (3, 7), (4, 7), (5, 8)] = true := by kernel_rfl
theorem yu : allB' (fun p => pE p (fun op p => pE p (fun a t => tyChk op [a] t))) r1L = true := by kernel_rfl
theorem yb : allB' (fun p => pE p (fun op p => pE p (fun a p => pE p (fun b t => tyChk op [a, b] t)))) r2L = true := by kernel_rfl
theorem yt : allB' (fun b => tyChk 15 [7, b, 2] 5) [7, 3] = true := by kernel_rfl
end
def tyR (t : Nat) : Value := .tuple #[.int .i64 (t : Int), .slice none 0 0, .bool true]
def TypSpec (t : Nat) (e : Ex) : Prop := ∀ (w : World) (cs : List Value), 0 < w.heap.size → IsEx w (· < w.heap.size) e cs → Calls Tryz.prog 59 #[.agg cs.toArray] w fun e' w' => e' = .returned (tyR t) ∧ Below w.heap.size w w'
theorem fn59 : T1.E.fn.get 59 = some Tryz.f59 := by kernel_rfl
theorem body59 : Tryz.f59.body = some (bodyOf Tryz.f59) := by kernel_rfl
theorem isTy_eq {t : Nat} {r : Out} (h : isTy t r = true) : ∃ h' c tl, r = .ok (.tup [.int .i64 (.ofNat t), .nils, .bool true]) h' c tl := by
  cases r with
  | no => cases h
  | ok v h' c tl =>
    have h1 : isTyV t v = true := h
    unfold isTyV at h1
    split at h1
    · next n => rw [beq_true h1]; exact ⟨h', c, tl, rfl⟩
    · cases h1
theorem one_tab {tab : List (Nat × AV)} {a : Nat} {v : AV} (h : List.rec (motive := fun _ => Option AV) none (fun p _ ih => pE p (fun i v => bE (Nat.beq i a) (some v) ih)) tab = some v) : (a, v) ∈ tab := by
  induction tab with
  | nil => cases h
  | cons p tab ih =>
    obtain ⟨i, u⟩ := p
    have h' : bE (Nat.beq i a) (some u) (List.rec (motive := fun _ => Option AV) none (fun p _ ih => pE p (fun i v => bE (Nat.beq i a) (some v) ih)) tab) = some v := h
    cases hb : Nat.beq i a with
    | true =>
      rw [hb, bE_true] at h'
      cases h'
      rw [beq_true hb]
      simp
    | false =>
      rw [hb, bE_false] at h'
      exact List.mem_cons_of_mem _ (ih h')
theorem tabTy_mem : ∀ (ts : List Nat) (a x : Nat) (v : AV), (x, v) ∈ tabTy ts a → ∃ i t, ts[i]? = some t ∧ x = a + 7 * i ∧ v = .tup [.int .i64 (.ofNat t), .nils, .bool true]
  | [], a, x, v, h => by simp [tabTy] at h
  | t :: ts, a, x, v, h => by
    rw [tabTy] at h
    rcases List.mem_cons.1 h with h | h
    · cases h; exact ⟨0, t, rfl, by omega, rfl⟩
    · obtain ⟨i, q, h1, h2, h3⟩ := tabTy_mem ts (a + 7) x v h
      exact ⟨i + 1, q, by simpa using h1, by omega, h3⟩
def rhoR (L : Option Go.Ab.Loc) (vs : List Value) : Rho := fun n => if n = 12 then L else if 20 ≤ n ∧ n < 20 + vs.length then (vs[n - 20]?).map vloc else none
theorem hR_get {l n : Nat} {o : AB} (h : (hR l).get n = some o) : n = 12 ∧ 0 < l ∧ o = .cells .ro (opsL 20 (7 * l)) := by
  cases l with
  | zero => exact absurd (show (Tr.lf : Tr AB).get n = some o from h) (by simp)
  | succ l =>
    have h' : ((Tr.lf : Tr AB).set 12 (.cells .ro (opsL 20 (7 * (l + 1))))).get n = some o := h
    rw [Tr.get_set] at h'
    by_cases hn : n = 12
    · rw [if_pos hn] at h'; cases h'; exact ⟨hn, by omega, rfl⟩
    · rw [if_neg hn] at h'; simp at h'
theorem ty_step {op t : Nat} {nm : ByteArray} {b1 : Bool} {m1 : ByteArray} {b2 : Bool} {m2 : ByteArray} {ys : List Ex} {ts : List Nat} (hl : ts.length = ys.length) (h3 : ys.length ≤ 3) (hc : tyChk op ts t = true) (hys : ∀ (i : Nat) (t : Nat) (y : Ex), ts[i]? = some t → ys[i]? = some y → TypSpec t y) : TypSpec t (.mk (op : Int) nm b1 m1 b2 m2 ys) := by
  intro w cs h0 hex
  cases hex with
  | mk hsl =>
    obtain ⟨vs, L, k1, k2, k3, k4, k5, k6, k7⟩ := slA_ok hsl (fun _ h => h)
    obtain ⟨h', c, tl, hok⟩ := isTy_eq hc
    rw [hl] at hok
    have rv20 : ∀ (j : Nat) (u : Value), vs[j]? = some u → rhoR L vs (20 + j) = some (vloc u) := by
      intro j u hu
      have hj : j < vs.length := (List.getElem?_eq_some_iff.1 hu).1
      unfold rhoR
      rw [if_neg (by omega), if_pos (by omega), show 20 + j - 20 = j by omega, hu]; rfl
    have inn : ∀ n M, rhoR L vs n = some M → M.blk < w.heap.size := by
      intro n M hM
      unfold rhoR at hM
      split at hM
      · exact (k4 M hM).1
      · split at hM
        · rw [Option.map_eq_some_iff] at hM
          obtain ⟨v, _, rfl⟩ := hM
          exact h0
        · cases hM
    have rh : RH w.heap.size (rhoR L vs) (fun n => (hR ys.length).get n) w := by
      refine ⟨fun n o hg => ?_, fun n k a b L' M hn _ _ _ _ ho => ?_, inn⟩
      · obtain ⟨rfl, hl, rfl⟩ := hR_get hg
        obtain ⟨M, hM⟩ := Option.isSome_iff_exists.1 (k5 hl)
        refine ⟨M, by unfold rhoR; rw [if_pos rfl, hM], fun i v hv => ?_, trivial⟩
        obtain ⟨rfl, hi⟩ := opsL_get _ _ _ _ hv
        have hg : vs[i]? = some vs[i] := List.getElem?_eq_getElem (by omega)
        exact ⟨_, (k4 M hM).2 i _ hg, .op _ _ (rv20 i _ hg) (k2 i _ hg)⟩
      · obtain ⟨_, _, rfl⟩ := hR_get hn
        cases ho
    have inv : invC (rhoR L vs) w w.heap.size (rhoR L vs) (fun n => (hR ys.length).get n) w :=
      ⟨Rho.le_refl _, Nat.le_refl _, fun _ _ => rfl, fun m o L hg ho _ => by obtain ⟨_, _, rfl⟩ := hR_get hg; cases ho⟩
    have con : ConOK Tryz.prog (conTy ts) (invC (rhoR L vs) w) := by
      intro f k hk H c args v m o hkm B ρ G w1 zs hz inv1 rh1 hB hp fr
      have hk' : ((Tr.lf : Tr (Tr AB → Nat → List AV → ConR)).set 59 (oneK 7 (tabTy ts 20))).get f = some k := hk
      rw [Tr.get_set] at hk'
      have le := inv1.1
      by_cases h1 : f = 59
      · rw [if_pos h1] at hk'; cases hk'; subst h1
        refine ⟨has fn59 body59, ?_⟩
        obtain ⟨e1, rfl, rfl⟩ := res0_eq hkm
        cases hz with
        | nil => cases e1
        | cons hz1 hz2 => cases hz2 with
          | cons => cases e1
          | nil =>
            obtain ⟨a, hpa, e3⟩ := oE_none_eq e1
            obtain ⟨i, t', hti, rfl, rfl⟩ := tabTy_mem ts 20 a v (one_tab e3)
            have hit : i < ts.length := (List.getElem?_eq_some_iff.1 hti).1
            have hyi : ys[i]? = some ys[i] := List.getElem?_eq_getElem (by omega)
            obtain ⟨ca, hca, hca2⟩ := k3 i _ hyi
            obtain ⟨xa, rfl, hxa, hxa2⟩ := opsAt_rv hpa hz1
            have ea1 : xa = ca.toArray := agg_of hxa hca.one.1 fun j hj => by
              obtain ⟨L', hL, hLx⟩ := hxa2 j hj
              have hg : vs[7 * i + j]? = some vs[7 * i + j] := List.getElem?_eq_getElem (by omega)
              have := le _ _ (rv20 _ _ hg)
              rw [show 20 + (7 * i + j) = 20 + 7 * i + j by omega, hL] at this
              cases this
              rw [hLx, ← hca2 j hj, hg]; rfl
            subst ea1
            refine con_wrap rh1 inv1 hB (.tup _ _ (.cons (.int .i64 (Int.ofNat t')) (.cons .nils (.cons (.bool true) .nil)))) (hys i t' _ hti hyi w1 ca (Nat.lt_of_lt_of_le h0 inv1.2.1) (hca.mono (fun k hk => Nat.lt_of_lt_of_le hk inv1.2.1) (fun k hk => inv1.2.2.1 k hk)))
      · rw [if_neg h1] at hk'; simp at hk'
    refine run_gen (E := ETy ts) (I := invC (rhoR L vs) w) (B := w.heap.size) (ρ := rhoR L vs) (G := fun n => (hR ys.length).get n) (xs := [_]) ⟨envOK_con _, invC_ok _ _, con⟩ bodyOK fn59 body59 hok
      (.cons (.agg _ _ (.cons (.int .i64 (Int.ofNat op)) (.cons (.any _) (.cons (.any _) (.cons (.any _) (.cons (.any _) (.cons (.any _) (.cons (k7 _ _ (by unfold rhoR; rw [if_pos rfl])) .nil)))))))) .nil)
      rh inv (Nat.le_refl _) (fun n hn => ?_) (fun n hn _ => ?_) (fun _ _ h => h) fun u ρ' G' w' A _ => ?_
    · have hn' : 70 ≤ n := hn
      cases hg : (hR ys.length).get n with
      | none => rfl
      | some o => have := (hR_get hg).1; omega
    · have hn' : 70 ≤ n := hn
      unfold rhoR
      rw [if_neg (by omega), if_neg (by omega)]
    · have hu := A.rv
      cases hu with
      | tup _ X hX =>
        obtain ⟨X⟩ := X
        match X, hX with
        | [x0, x1, x2], .cons r0 (.cons r1 (.cons r2 .nil)) =>
          cases r0; cases r1; cases r2
          exact ⟨rfl, A.bel⟩
theorem typ_te {vs t d : Nat} {e : Ex} (h : TE vs t d e) : TypSpec t e := by
  induction h with
  | @leaf t d op nm b1 m1 b2 m2 h =>
    refine ty_step (ts := []) rfl (by simp) ?_ (fun i t y h => by simp at h)
    unfold isLeaf at h
    split at h
    all_goals try (rw [Bool.and_eq_true, Bool.and_eq_true] at h; obtain rfl := beq_true h.2.2)
    · exact allB'_ok yl (1, 2) (by simp)
    · exact allB'_ok yl (3, 7) (by simp)
    · exact allB'_ok yl (4, 7) (by simp)
    · exact allB'_ok yl (5, 8) (by simp)
    · cases h
  | @un t d op a nm b1 m1 b2 m2 y _ hr _ ih =>
    refine ty_step (ts := [a]) rfl (by simp) (allB'_ok yu (op, a, t) (r1_has hr)) (fun i t y' h1 h2 => ?_)
    match i, h1, h2 with
    | 0, h1, h2 => simp at h1 h2; subst h1; subst h2; exact ih
    | i + 1, h1, _ => simp at h1
  | @bin t d op a b nm b1 m1 b2 m2 y z _ hr _ _ ih1 ih2 =>
    refine ty_step (ts := [a, b]) rfl (by simp) (allB'_ok yb (op, a, b, t) (r2_has hr)) (fun i t y' h1 h2 => ?_)
    match i, h1, h2 with
    | 0, h1, h2 => simp at h1 h2; subst h1; subst h2; exact ih1
    | 1, h1, h2 => simp at h1 h2; subst h1; subst h2; exact ih2
    | i + 2, h1, _ => simp at h1
  | @ter d b nm b1 m1 b2 m2 x y z _ hb _ _ _ ih1 ih2 ih3 =>
    refine ty_step (op := 15) (ts := [7, b, 2]) rfl (by simp) (allB'_ok yt b (by rcases hb with rfl | rfl <;> simp)) (fun i t y' h1 h2 => ?_)
    match i, h1, h2 with
    | 0, h1, h2 => simp at h1 h2; subst h1; subst h2; exact ih1
    | 1, h1, h2 => simp at h1 h2; subst h1; subst h2; exact ih2
    | 2, h1, h2 => simp at h1 h2; subst h1; subst h2; exact ih3
    | i + 3, h1, _ => simp at h1
end T1
