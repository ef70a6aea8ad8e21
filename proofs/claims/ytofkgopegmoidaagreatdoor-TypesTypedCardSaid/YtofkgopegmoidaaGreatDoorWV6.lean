/- A part of an evaluator of the program's operations over values that are known whole or in part, and of the proof that what it answers holds of the program's run. No condition. -/
import Derived.Test.YtofkgopegmoidaaGreatDoorWV5k
namespace T1
open Go Go.Ab Go.Proofs
open Go.RowKit (Below)
/-- the names and the ids that Bind is given -/
structure Nms (nb ib i1 i2 : Nat) (w : World) : Prop where
  ln : nb < w.heap.size
  li : ib < w.heap.size
  n0 : ∃ s, w.cell? ⟨nb, 0, none⟩ = some (.string s) ∧ bytesOf s = [97]
  n1 : ∃ s, w.cell? ⟨nb, 1, none⟩ = some (.string s) ∧ bytesOf s = [98]
  d0 : w.cell? ⟨ib, 0, none⟩ = some (.int .i64 (i1 : Int))
  d1 : w.cell? ⟨ib, 1, none⟩ = some (.int .i64 (i2 : Int))
theorem Nms.same {nb ib i1 i2 : Nat} {w w' : World} (h : Nms nb ib i1 i2 w) (hs : w.heap.size ≤ w'.heap.size) (h1 : w'.heap[nb]? = w.heap[nb]?) (h2 : w'.heap[ib]? = w.heap[ib]?) : Nms nb ib i1 i2 w' :=
  ⟨Nat.lt_of_lt_of_le h.ln hs, Nat.lt_of_lt_of_le h.li hs, by rw [World.cell?_of_block (w := w) h1]; exact h.n0, by rw [World.cell?_of_block (w := w) h1]; exact h.n1, by rw [World.cell?_of_block (w := w) h2]; exact h.d0, by rw [World.cell?_of_block (w := w) h2]; exact h.d1⟩
def BndRes (t d : Nat) (w : World) (e' : Ending) (w' : World) : Prop := ∃ (cs : List Value) (ex : Ex), e' = .returned (.agg cs.toArray) ∧ TE 0 t d ex ∧ IsEx w' (fun k => w.heap.size ≤ k ∧ k < w'.heap.size) ex cs ∧ Below w.heap.size w w'
def BndSpec (i1 i2 t d : Nat) (e : Ex) : Prop := ∀ (w : World) (gb nb ib : Nat) (cs : List Value), gb < w.heap.size → nb ≠ gb → ib ≠ gb → Nms nb ib i1 i2 w → IsEx w (fun k => k < w.heap.size ∧ k ≠ gb) e cs →
  Calls Tryz.prog 58 #[.agg cs.toArray, .slice (some ⟨nb, 0, none⟩) 2 2, .slice (some ⟨ib, 0, none⟩) 2 2] w (BndRes t d w)
theorem fn58 : T1.E.fn.get 58 = some Tryz.f58 := by kernel_rfl
theorem body58 : Tryz.f58.body = some (bodyOf Tryz.f58) := by kernel_rfl
def plainL (b : Nat) : Go.Ab.Loc := ⟨b, 0, 0, undef, 0⟩
def rhoB (gb nb ib : Nat) (L : Option Go.Ab.Loc) (vs : List Value) : Rho := fun n => if n = 0 then some (bLoc gb) else if n = 1 then some (plainL nb) else if n = 2 then some (plainL ib) else if n = 12 then L else if 20 ≤ n ∧ n < 20 + vs.length then (vs[n - 20]?).map vloc else none
theorem hB_get {i1 i2 : AV} {l n : Nat} {o : AB} (h : (hB i1 i2 l).get n = some o) : (n = 1 ∧ o = .cells .ro [.str [97], .str [98]]) ∨ (n = 2 ∧ o = .cells .ro [i1, i2]) ∨ (n = 12 ∧ 0 < l ∧ o = .cells .ro (opsL 20 (7 * l))) := by
  have base : ((Tr.lf.set 1 (.cells .ro [.str [97], .str [98]])).set 2 (.cells .ro [i1, i2])).get n = some o → (n = 1 ∧ o = .cells .ro [.str [97], .str [98]]) ∨ (n = 2 ∧ o = .cells .ro [i1, i2]) := fun h => by
    rw [Tr.get_set, Tr.get_set] at h
    by_cases h2 : n = 2
    · rw [if_pos h2] at h; cases h; exact .inr ⟨h2, rfl⟩
    rw [if_neg h2] at h
    by_cases h1 : n = 1
    · rw [if_pos h1] at h; cases h; exact .inl ⟨h1, rfl⟩
    rw [if_neg h1] at h; simp at h
  cases l with
  | zero =>
    rcases base h with h | h
    · exact .inl h
    · exact .inr (.inl h)
  | succ l =>
    have h' : (((Tr.lf.set 1 (.cells .ro [.str [97], .str [98]])).set 2 (.cells .ro [i1, i2])).set 12 (.cells .ro (opsL 20 (7 * (l + 1))))).get n = some o := h
    rw [Tr.get_set] at h'
    by_cases hn : n = 12
    · rw [if_pos hn] at h'; cases h'; exact .inr (.inr ⟨hn, by omega, rfl⟩)
    · rw [if_neg hn] at h'
      rcases base h' with h | h
      · exact .inl h
      · exact .inr (.inl h)
theorem bndTab_eq : ∀ {cl : List Nat} {a x q : Nat}, bndTab cl a x = some q → ∃ i, cl[i]? = some q ∧ x = a + 7 * i
  | [], a, x, q, h => by cases h
  | c :: cl, a, x, q, h => by
    have h' : bE (Nat.beq a x) (some c) (bndTab cl (a + 7) x) = some q := h
    cases hb : Nat.beq a x with
    | true =>
      rw [hb, bE_true] at h'; cases h'
      exact ⟨0, rfl, by have := beq_true hb; omega⟩
    | false =>
      rw [hb, bE_false] at h'
      obtain ⟨i, h1, h2⟩ := bndTab_eq h'
      exact ⟨i + 1, by simpa using h1, by omega⟩
theorem isSl2_eq {n : Nat} {v : AV} (h : isSl2 n v = true) : v = .sl n 0 2 (.fix 2) := by
  unfold isSl2 at h
  split at h
  · rw [beq_true h]
  · cases h
theorem two_rv {ρ : Rho} {n b : Nat} {u : Value} (hr : RV ρ (.sl n 0 2 (.fix 2)) u) (h : ρ n = some (plainL b)) : u = .slice (some ⟨b, 0, none⟩) 2 2 := by
  cases hr with
  | slf _ _ _ _ L hL => rw [h] at hL; cases hL; rfl
theorem slA_ok2 {w : World} {T : Nat → Prop} {ys : List Ex} {sl : Value} (h : IsSl w T ys sl) (hT : ∀ k, T k → k < w.heap.size) : ∃ (vs : List Value) (L : Option Go.Ab.Loc), vs.length = 7 * ys.length ∧
    (∀ (j : Nat) (u : Value), vs[j]? = some u → u.oneCell' = true) ∧ (∀ (i : Nat) (e : Ex), ys[i]? = some e → ∃ cs, IsEx w T e cs ∧ ∀ j, j < 7 → vs[7 * i + j]? = cs[j]?) ∧
    (∀ M, L = some M → M.blk < w.heap.size ∧ (∀ (j : Nat) (u : Value), vs[j]? = some u → w.cell? (M.adr j) = some u) ∧ T M.blk ∧ M.tag = 0) ∧ (0 < ys.length → L.isSome = true) ∧
    ∀ (ρ : Rho) (n : Nat), ρ n = L → RV ρ (slA n ys.length) sl := by
  cases h with
  | nil => exact ⟨[], none, rfl, fun j u h => (by simp at h), fun i e h => (by simp at h), fun M h => (by cases h), fun h => (by simp at h), fun _ _ _ => .nils⟩
  | row h1 h2 h3 =>
    rename_i a ys blk off c
    obtain ⟨vs, k1, k2, k3⟩ := h3.vals
    refine ⟨vs, some ⟨blk, off, c * 7, undef, 0⟩, k1, fun j u hu => (k2 j u hu).2, k3, fun M hM => ?_, fun _ => rfl, fun ρ n hn => ?_⟩
    · cases hM
      exact ⟨hT _ h2, fun j u hu => (k2 j u hu).1, h2, rfl⟩
    · exact RV.sle n 0 _ 7 c _ hn (Nat.zero_add _) h1
theorem bnd_step {op : Nat} {nm : ByteArray} {m1 : ByteArray} {m2 : ByteArray} {ys : List Ex} {cl : List Nat} {a1 a2 : AV} {i1 i2 t d : Nat} (ht : t ≠ 9 ∧ t ≠ 10) (hl : cl.length = ys.length) (h3 : ys.length ≤ 3) (ha1 : ∀ ρ, RV ρ a1 (.int .i64 (i1 : Int))) (ha2 : ∀ ρ, RV ρ a2 (.int .i64 (i2 : Int)))
    (hc : closeT 0 t d (bR op (bytesOf nm) (bytesOf m1) (bytesOf m2) a1 a2 cl) = true) (hys : ∀ (i : Nat) (q : Nat) (y : Ex), cl[i]? = some q → ys[i]? = some y → ∃ t d, q = cc t d ∧ t < 16 ∧ t ≠ 9 ∧ t ≠ 10 ∧ BndSpec i1 i2 t d y) : BndSpec i1 i2 t d (.mk (op : Int) nm false m1 false m2 ys) := by
  intro w gb nb ib cs hgb hng hig hN hex
  cases hex with
  | mk hsl =>
    obtain ⟨vs, L, k1, k2, k3, k4, k5, k7⟩ := slA_ok2 hsl (fun _ h => h.1)
    have hLgb : ∀ M, L = some M → M.blk ≠ gb := fun M hM => (k4 M hM).2.2.1.2
    cases hres : bR op (bytesOf nm) (bytesOf m1) (bytesOf m2) a1 a2 cl with
    | no => rw [hres] at hc; cases hc
    | ok v h c tl =>
      rw [hres] at hc
      have hres' : enter (EB cl) (exec (EB cl) 2000) ⟨.lf, hB a1 a2 cl.length, 100, 100, []⟩ [exB op (bytesOf nm) (bytesOf m1) (bytesOf m2) cl.length, .sl 1 0 2 (.fix 2), .sl 2 0 2 (.fix 2)] Tryz.f58 (bodyOf Tryz.f58) = .ok v h c tl := hres
      rw [hl] at hres'
      have h0 : 0 < w.heap.size := by omega
      have rv20 : ∀ (j : Nat) (u : Value), vs[j]? = some u → rhoB gb nb ib L vs (20 + j) = some (vloc u) := by
        intro j u hu
        have hj : j < vs.length := (List.getElem?_eq_some_iff.1 hu).1
        unfold rhoB
        rw [if_neg (by omega), if_neg (by omega), if_neg (by omega), if_neg (by omega), if_pos (by omega), show 20 + j - 20 = j by omega, hu]; rfl
      have rv12 : rhoB gb nb ib L vs 12 = L := by unfold rhoB; rw [if_neg (by omega), if_neg (by omega), if_neg (by omega), if_pos rfl]
      have tag0 : ∀ n M, rhoB gb nb ib L vs n = some M → M.tag = 0 := by
        intro n M hM
        unfold rhoB at hM
        split at hM
        · cases hM; rfl
        · split at hM
          · cases hM; rfl
          · split at hM
            · cases hM; rfl
            · split at hM
              · exact (k4 M hM).2.2.2
              · split at hM
                · rw [Option.map_eq_some_iff] at hM
                  obtain ⟨v, _, rfl⟩ := hM
                  rfl
                · cases hM
      have inn : ∀ n M, rhoB gb nb ib L vs n = some M → M.blk < w.heap.size := by
        intro n M hM
        unfold rhoB at hM
        split at hM
        · cases hM; exact hgb
        · split at hM
          · cases hM; exact hN.ln
          · split at hM
            · cases hM; exact hN.li
            · split at hM
              · exact (k4 M hM).1
              · split at hM
                · rw [Option.map_eq_some_iff] at hM
                  obtain ⟨v, _, rfl⟩ := hM
                  exact h0
                · cases hM
      have own : ∀ n o, (hB a1 a2 ys.length).get n = some o → o.own = false := by
        intro n o hg
        rcases hB_get hg with ⟨_, rfl⟩ | ⟨_, rfl⟩ | ⟨_, _, rfl⟩ <;> rfl
      have rh : RH gb (rhoB gb nb ib L vs) (fun n => (hB a1 a2 ys.length).get n) w := by
        refine ⟨fun n o hg => ?_, fun n k a b L' M hn _ _ _ _ ho => ?_, inn⟩
        · rcases hB_get hg with ⟨rfl, rfl⟩ | ⟨rfl, rfl⟩ | ⟨rfl, hl, rfl⟩
          · refine ⟨plainL nb, rfl, fun i v hv => ?_, trivial⟩
            obtain ⟨s0, e0, f0⟩ := hN.n0
            obtain ⟨s1, e1, f1⟩ := hN.n1
            match i, hv with
            | 0, hv => cases hv; exact ⟨_, e0, f0 ▸ .str s0⟩
            | 1, hv => cases hv; exact ⟨_, e1, f1 ▸ .str s1⟩
            | i + 2, hv => simp at hv
          · refine ⟨plainL ib, rfl, fun i v hv => ?_, trivial⟩
            match i, hv with
            | 0, hv => cases hv; exact ⟨_, hN.d0, ha1 _⟩
            | 1, hv => cases hv; exact ⟨_, hN.d1, ha2 _⟩
            | i + 2, hv => simp at hv
          · obtain ⟨M, hM⟩ := Option.isSome_iff_exists.1 (k5 hl)
            refine ⟨M, rv12.trans hM, fun i v hv => ?_, trivial⟩
            obtain ⟨rfl, hi⟩ := opsL_get _ _ _ _ hv
            have hg : vs[i]? = some vs[i] := List.getElem?_eq_getElem (by omega)
            exact ⟨_, (k4 M hM).2.1 i _ hg, .op _ _ (rv20 i _ hg) (k2 i _ hg)⟩
        · rw [own n a hn] at ho; cases ho
      have inv : InvU (QT 0) (fun ρ _ w' => (rhoB gb nb ib L vs).le ρ ∧ w'.heap[gb]? = w.heap[gb]?) w gb gb (rhoB gb nb ib L vs) (fun n => (hB a1 a2 ys.length).get n) w := by
        refine ⟨hgb, Nat.le_refl _, fun _ _ _ => rfl, fun n o L hn ho _ => ?_, fun n o M h0 hn hM => ?_, rfl, fun o ho => own 0 o ho, rfl, fun i M c hM ht => ?_, Rho.le_refl _, rfl⟩
        · rw [own n o hn] at ho; cases ho
        · rcases hB_get hn with ⟨rfl, rfl⟩ | ⟨rfl, rfl⟩ | ⟨rfl, _, rfl⟩
          · cases hM; exact hng
          · cases hM; exact hig
          · rw [rv12] at hM; exact hLgb M hM
        · rw [tag0 i M hM] at ht; unfold tcl at ht; omega
      have con : ConOK Tryz.prog (conB cl) (invU (QT 0) (fun ρ _ w' => (rhoB gb nb ib L vs).le ρ ∧ w'.heap[gb]? = w.heap[gb]?) w gb) := by
        intro f k hk H c args v m o hkm B ρ G w1 zs hz inv1 rh1 hB hp fr
        have hk' : ((Tr.lf : Tr (Tr AB → Nat → List AV → ConR)).set 58 (bndK cl)).get f = some k := hk
        rw [Tr.get_set] at hk'
        have le : (rhoB gb nb ib L vs).le ρ := inv1.ks.1
        by_cases h1 : f = 58
        · rw [if_pos h1] at hk'; cases hk'; subst h1
          refine ⟨has fn58 body58, ?_⟩
          cases hz with
          | nil => cases hkm
          | cons hz1 hz2 => cases hz2 with
            | nil => cases hkm
            | cons hz2 hz3 => cases hz3 with
              | nil => cases hkm
              | cons hz3 hz4 => cases hz4 with
                | cons => cases hkm
                | nil =>
                  obtain ⟨e1, e2⟩ := bE_none_eq hkm
                  rw [Bool.and_eq_true] at e1
                  obtain ⟨a, hpa, e3⟩ := oE_none_eq e2
                  obtain ⟨q, hq, e4⟩ := oE_none_eq e3
                  cases e4
                  obtain ⟨i, hqi, rfl⟩ := bndTab_eq hq
                  have hit : i < cl.length := (List.getElem?_eq_some_iff.1 hqi).1
                  have hyi : ys[i]? = some ys[i] := List.getElem?_eq_getElem (by omega)
                  obtain ⟨ty, dy, rfl, t16, t9, t10, hspec⟩ := hys i q _ hqi hyi
                  obtain ⟨ca, hca, hca2⟩ := k3 i _ hyi
                  obtain ⟨xa, rfl, hxa, hxa2⟩ := opsAt_rv hpa hz1
                  have ea1 : xa = ca.toArray := agg_of hxa hca.one.1 fun j hj => by
                    obtain ⟨L', hL, hLx⟩ := hxa2 j hj
                    have hg : vs[7 * i + j]? = some vs[7 * i + j] := List.getElem?_eq_getElem (by omega)
                    have := le _ _ (rv20 _ _ hg)
                    rw [show 20 + (7 * i + j) = 20 + 7 * i + j by omega, hL] at this
                    cases this
                    rw [hLx, ← hca2 j hj, hg]; rfl
                  subst ea1
                  obtain rfl := isSl2_eq e1.1
                  obtain rfl := isSl2_eq e1.2
                  obtain rfl := two_rv hz2 (le 1 _ rfl)
                  obtain rfl := two_rv hz3 (le 2 _ rfl)
                  refine wrapU inv1 rh1 fr ((hspec w1 gb nb ib ca (Nat.lt_of_lt_of_le hgb inv1.sz) hng hig (hN.same inv1.sz (inv1.old nb hN.ln hng) (inv1.old ib hN.li hig)) (hca.mono (fun k hk => ⟨Nat.lt_of_lt_of_le hk.1 inv1.sz, hk.2⟩) (fun k hk => inv1.old k hk.1 hk.2))).mono fun e w2 hres => ?_)
                  obtain ⟨cs2, ex2, he, hte, hex2, hbel⟩ := hres
                  have hone := hex2.one
                  have hin : ∀ (j : Nat) (u : Value), cs2[j]? = some u → rhoN ρ c cs2 (fun j => tcl (cc ty dy) + j) (c + j) = some ⟨0, 0, 0, u, tcl (cc ty dy) + j⟩ := fun j u hu => by
                    obtain ⟨hj, hu'⟩ := List.getElem?_eq_some_iff.1 hu
                    rw [rhoN_in hj, hu']
                  have hgw1 : gb < w1.heap.size := Nat.lt_of_lt_of_le hgb inv1.sz
                  refine ⟨.agg cs2.toArray, cs2, fun j => tcl (cc ty dy) + j, ⟨he, hone.1, hone.2, .agg _ _ (opxL_rv 7 _ c cs2 hone.1 fun j u hu => ⟨_, hin j u hu, rfl, rfl, hone.2 u (List.mem_of_getElem? hu)⟩), hbel.size, fun k hk _ => hbel.block k hk, hbel.mono (Nat.le_of_lt hgw1), hbel.block gb hgw1, ⟨Rho.le_trans le (rhoN_le (by rw [hone.1]; exact fr)), (hbel.block gb hgw1).trans inv1.ks.2⟩, fun i hi cc' hcc => ?_⟩⟩
                  have hcc' : tcl (cc ty dy) + i = tcl cc' := hcc
                  have hi7 : i < 7 := hi
                  have hi0 : i = 0 := by unfold tcl at hcc'; omega
                  subst hi0
                  obtain rfl : cc ty dy = cc' := tcl_inj (by simpa using hcc')
                  refine ⟨cs2, ex2, ?_, hex2, fun j hj => ⟨by show 0 + j < 7; omega, by simp, by simp⟩⟩
                  have e5 : cc ty dy % 16 = ty := by show (ty + 16 * dy) % 16 = ty; omega
                  have e6 : cc ty dy / 16 = dy := by show (ty + 16 * dy) / 16 = dy; omega
                  unfold QT
                  rw [e5, e6]; exact hte.p
        · rw [if_neg h1] at hk'; simp at hk'
      refine run_gen (E := EB cl) (I := invU (QT 0) (fun ρ _ w' => (rhoB gb nb ib L vs).le ρ ∧ w'.heap[gb]? = w.heap[gb]?) w gb) (B := gb) (ρ := rhoB gb nb ib L vs) (G := fun n => (hB a1 a2 ys.length).get n) (xs := [_, _, _])
        ⟨envOK_con _, invU_ok (fun ρ G w1 ρ' G' w' h hg hle _ _ => ⟨Rho.le_trans h.1 hle, hg.trans h.2⟩), con⟩ bodyOK fn58 body58 hres'
        (.cons (.agg _ _ (.cons (.int .i64 (Int.ofNat op)) (.cons (.str nm) (.cons (.bool false) (.cons (.str m1) (.cons (.bool false) (.cons (.str m2) (.cons (k7 _ _ rv12) .nil)))))))) (.cons (.slf 1 0 2 2 (plainL nb) rfl) (.cons (.slf 2 0 2 2 (plainL ib) rfl) .nil)))
        rh inv (Nat.le_of_lt hgb) (fun n hn => ?_) (fun n hn _ => ?_) (fun _ _ h => h) fun u ρ' G' w' A J => ?_
      · have hn' : 100 ≤ n := hn
        cases hg : (hB a1 a2 ys.length).get n with
        | none => rfl
        | some o => rcases hB_get hg with ⟨h, _⟩ | ⟨h, _⟩ | ⟨h, _, _⟩ <;> omega
      · have hn' : 100 ≤ n := hn
        unfold rhoB
        rw [if_neg (by omega), if_neg (by omega), if_neg (by omega), if_neg (by omega), if_neg (by omega)]
      · obtain ⟨cs2, ex2, rfl, hq, hex2⟩ := closeG own (fun _ _ _ _ _ _ _ h => h) A J hc
        obtain ⟨t', ht', hte⟩ := hq
        have : t' = t := by
          unfold exT' at ht'
          rw [if_neg ht.1, if_neg ht.2] at ht'
          simpa using ht'
        subst this
        refine ⟨cs2, ex2, rfl, hte, hex2, ⟨A.bel.os, A.bel.tape, A.bel.output, A.bel.size, fun k hk => ?_⟩⟩
        by_cases hkg : k = gb
        · subst hkg; exact J.ks.2
        · exact J.old k hk hkg
end T1
namespace T1
open Go Go.Ab Go.Proofs
open Go.RowKit (Below)
theorem BndSpec.le {i1 i2 t d d' : Nat} {e : Ex} (h : BndSpec i1 i2 t d e) (hd : d ≤ d') : BndSpec i1 i2 t d' e := by
  intro w gb nb ib cs h1 h2 h3 h4 h5
  refine (h w gb nb ib cs h1 h2 h3 h4 h5).mono fun e' w' ⟨cs, ex, k1, k2, k3, k4⟩ => ⟨cs, ex, k1, k2.le hd, k3, k4⟩
theorem num_leafB {nm : ByteArray} {b1 : Bool} {m1 : ByteArray} {b2 : Bool} {m2 : ByteArray} (hn : bytesOf nm = []) (h : isNumL b1 (bytesOf m1) b2 (bytesOf m2) = true) : b1 = false ∧ b2 = false ∧ bLeaf 1 2 (bytesOf nm) (bytesOf m1) (bytesOf m2) = true := by
  unfold isNumL at h
  rw [Bool.and_eq_true, Bool.and_eq_true] at h
  obtain ⟨h1, h2, h3⟩ := h
  refine ⟨by simpa using h1, by simpa using h2, ?_⟩
  rw [hn]
  split at h3
  · next e1 e2 => rw [e1, e2]; exact allB'_ok T1.b1 0 (List.mem_range.2 (by omega))
  · next n e1 e2 =>
    rw [Bool.and_eq_true] at h3
    have a1 := ble_true h3.1
    have a2 := ble_true h3.2
    rw [e1, e2]
    have := allB'_ok T1.b1 n (List.mem_range.2 (by omega))
    rw [if_neg (by omega)] at this
    exact this
  · next n d e1 e2 =>
    rw [Bool.and_eq_true, Bool.and_eq_true] at h3
    obtain rfl := beq_true h3.1
    have a1 := ble_true h3.2.1
    have a2 : n % 2 = 1 := beq_true h3.2.2
    rw [e1, e2]
    exact allB'_ok T1.b2 n (mod_odd a1 a2)
  · cases h3
theorem obj_leafB {nm : ByteArray} {b1 : Bool} {m1 : ByteArray} {b2 : Bool} {m2 : ByteArray} (hn : bytesOf nm = []) (h : isObjL b1 (bytesOf m1) b2 (bytesOf m2) = true) : b1 = false ∧ b2 = false ∧ bLeaf 3 7 (bytesOf nm) (bytesOf m1) (bytesOf m2) = true := by
  unfold isObjL at h
  rw [Bool.and_eq_true, Bool.and_eq_true] at h
  obtain ⟨h1, h2, h3⟩ := h
  refine ⟨by simpa using h1, by simpa using h2, ?_⟩
  rw [hn]
  split at h3
  · next n e1 e2 =>
    rw [Bool.and_eq_true] at h3
    have a1 := ble_true h3.1
    have a2 := ble_true h3.2
    rw [e1, e2]
    have := allB'_ok T1.b3 n (List.mem_map.2 ⟨n - 1, List.mem_range.2 (by omega), by omega⟩)
    rw [if_neg (by omega)] at this
    exact this
  · next x y e1 e2 =>
    rw [Bool.and_eq_true] at h3
    obtain rfl := beq_true h3.1
    obtain rfl := beq_true h3.2
    rw [e1, e2]
    have := allB'_ok T1.b3 256 (List.mem_map.2 ⟨255, List.mem_range.2 (by omega), rfl⟩)
    rw [if_pos rfl] at this
    exact this
  · cases h3
theorem from_has {n : Nat} (h1 : 1 ≤ n) (h2 : n ≤ 256) : n ∈ from' 1 256 := List.mem_map.2 ⟨n - 1, List.mem_range.2 (by omega), by omega⟩
theorem leafB {op t i1 i2 : Nat} {nm m1 m2 : ByteArray} {a1 a2 : AV} (ht : t ≠ 9 ∧ t ≠ 10) (ha1 : ∀ ρ, RV ρ a1 (.int .i64 (i1 : Int))) (ha2 : ∀ ρ, RV ρ a2 (.int .i64 (i2 : Int))) (hc : closeT 0 t 0 (bR op (bytesOf nm) (bytesOf m1) (bytesOf m2) a1 a2 []) = true) (d : Nat) : BndSpec i1 i2 t d (.mk (op : Int) nm false m1 false m2 []) :=
  (bnd_step (ys := []) (cl := []) (d := 0) ht rfl (by simp) ha1 ha2 hc (fun i q y h => by simp at h)).le (Nat.zero_le _)
set_option maxRecDepth 20000 in
theorem bnd_te {vs i1 i2 t d : Nat} {e : Ex} (hi1 : 1 ≤ i1 ∧ i1 ≤ 256) (hi2 : 1 ≤ i2 ∧ i2 ≤ 256) (h : TE vs t d e) : d ≤ 6 → BndSpec i1 i2 t d e := by
  have t910 : ∀ {t d : Nat} {e : Ex}, TE vs t d e → t < 16 ∧ t ≠ 9 ∧ t ≠ 10 := fun h => by have := h.t_le; omega
  induction h with
  | @leaf t d op nm b1 m1 b2 m2 h =>
    intro _
    have ht := (t910 (TE.leaf (vs := vs) (d := 0) h)).2
    unfold isLeaf at h
    split at h
    · rw [Bool.and_eq_true, Bool.and_eq_true] at h
      obtain rfl := beq_true h.2.2
      obtain ⟨rfl, rfl, hc⟩ := num_leafB ((seq_iff _ _).1 h.1) h.2.1
      exact leafB (op := 1) ht (fun _ => .any _) (fun _ => .any _) hc d
    · rw [Bool.and_eq_true, Bool.and_eq_true] at h
      obtain rfl := beq_true h.2.2
      obtain ⟨rfl, rfl, hc⟩ := obj_leafB ((seq_iff _ _).1 h.1) h.2.1
      exact leafB (op := 3) ht (fun _ => .any _) (fun _ => .any _) hc d
    · rw [Bool.and_eq_true, Bool.and_eq_true] at h
      obtain rfl := beq_true h.2.2
      obtain ⟨rfl, e1, rfl, e2⟩ := isZ4_eq h.2.1
      have hm := varN_sub _ (memS_has h.1)
      simp only [List.mem_cons, List.mem_nil_iff, or_false] at hm
      rcases hm with hm | hm
      · refine leafB (op := 4) (a1 := nat i1) (a2 := .any) ht (fun _ => .int .i64 (Int.ofNat i1)) (fun _ => .any _) ?_ d
        rw [e1, e2, hm]
        exact allB'_ok T1.b5 i1 (from_has hi1.1 hi1.2)
      · refine leafB (op := 4) (a1 := .any) (a2 := nat i2) ht (fun _ => .any _) (fun _ => .int .i64 (Int.ofNat i2)) ?_ d
        rw [e1, e2, hm]
        exact allB'_ok T1.b6 i2 (from_has hi2.1 hi2.2)
    · rw [Bool.and_eq_true, Bool.and_eq_true] at h
      obtain rfl := beq_true h.2.2
      obtain ⟨rfl, e1, rfl, e2⟩ := isZ4_eq h.2.1
      refine leafB (op := 5) ht (fun _ => .any _) (fun _ => .any _) ?_ d
      rw [e1, e2]
      exact allB'_ok T1.b4 _ (memS_has h.1)
    · cases h
  | @un t d op a nm b1 m1 b2 m2 y hb hr hy ih =>
    intro hd
    obtain ⟨e0, rfl, e1, rfl, e2⟩ := hb
    have ht := (t910 (TE.un (vs := vs) (d := d) (b1 := false) (b2 := false) (nm := nm) (m1 := m1) (m2 := m2) ⟨e0, rfl, e1, rfl, e2⟩ hr hy)).2
    refine bnd_step (ys := [y]) (cl := [cc a d]) (a1 := .any) (a2 := .any) ht rfl (by simp) (fun _ => .any _) (fun _ => .any _) ?_ (fun i q y' h1 h2 => ?_)
    · rw [e0, e1, e2]
      exact allB'_ok (allB'_ok T1.b7 d (List.mem_range.2 (by omega))) (op, a, t) (r1_has hr)
    · match i, h1, h2 with
      | 0, h1, h2 =>
        simp at h1 h2; subst h1; subst h2
        exact ⟨a, d, rfl, (t910 hy).1, (t910 hy).2.1, (t910 hy).2.2, ih (by omega)⟩
      | i + 1, h1, _ => simp at h1
  | @bin t d op a b nm b1 m1 b2 m2 y z hb hr hy hz ih1 ih2 =>
    intro hd
    obtain ⟨e0, rfl, e1, rfl, e2⟩ := hb
    have ht := (t910 (TE.bin (vs := vs) (d := d) (b1 := false) (b2 := false) (nm := nm) (m1 := m1) (m2 := m2) ⟨e0, rfl, e1, rfl, e2⟩ hr hy hz)).2
    refine bnd_step (ys := [y, z]) (cl := [cc a d, cc b d]) (a1 := .any) (a2 := .any) ht rfl (by simp) (fun _ => .any _) (fun _ => .any _) ?_ (fun i q y' h1 h2 => ?_)
    · rw [e0, e1, e2]
      exact allB'_ok (allB'_ok T1.b8 d (List.mem_range.2 (by omega))) (op, a, b, t) (r2_has hr)
    · match i, h1, h2 with
      | 0, h1, h2 =>
        simp at h1 h2; subst h1; subst h2
        exact ⟨a, d, rfl, (t910 hy).1, (t910 hy).2.1, (t910 hy).2.2, ih1 (by omega)⟩
      | 1, h1, h2 =>
        simp at h1 h2; subst h1; subst h2
        exact ⟨b, d, rfl, (t910 hz).1, (t910 hz).2.1, (t910 hz).2.2, ih2 (by omega)⟩
      | i + 2, h1, _ => simp at h1
  | @ter d b nm b1 m1 b2 m2 x y z hb hb2 hx hy hz ih1 ih2 ih3 =>
    intro hd
    obtain ⟨e0, rfl, e1, rfl, e2⟩ := hb
    refine bnd_step (op := 15) (ys := [x, y, z]) (cl := [cc 7 0, cc b d, cc 2 0]) (a1 := .any) (a2 := .any) (by omega) rfl (by simp) (fun _ => .any _) (fun _ => .any _) ?_ (fun i q y' h1 h2 => ?_)
    · rw [e0, e1, e2]
      exact allB'_ok (allB'_ok T1.b9 d (List.mem_range.2 (by omega))) b (by rcases hb2 with rfl | rfl <;> simp)
    · match i, h1, h2 with
      | 0, h1, h2 =>
        simp at h1 h2; subst h1; subst h2
        exact ⟨7, 0, rfl, by omega, by omega, by omega, ih1 (by omega)⟩
      | 1, h1, h2 =>
        simp at h1 h2; subst h1; subst h2
        exact ⟨b, d, rfl, (t910 hy).1, (t910 hy).2.1, (t910 hy).2.2, ih2 (by omega)⟩
      | 2, h1, h2 =>
        simp at h1 h2; subst h1; subst h2
        exact ⟨2, 0, rfl, by omega, by omega, by omega, ih3 (by omega)⟩
      | i + 3, h1, _ => simp at h1
end T1
