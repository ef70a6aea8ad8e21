/- A part of an evaluator of the program's operations over values that are known whole or in part, and of the proof that what it answers holds of the program's run. No condition. -/
import Derived.Test.YtofkgopegmoidaaGreatDoorWS56
namespace T1
open Go Go.Ab Go.Proofs
open Go.RowKit (Below)
def rhoG (gb : Nat) (sl : Value) : Rho := fun n => if n = 0 then some (gLoc gb) else if n = 90 then some (vloc sl) else none
theorem hG_get {n : Nat} {o : AB} (h : hG.get n = some o) : n = 0 ∧ o = .cells .ro [.op 90, .nils] := by
  have h' : ((Tr.lf : Tr AB).set 0 (.cells .ro [.op 90, .nils])).get n = some o := h
  rw [Tr.get_set] at h'
  by_cases h0 : n = 0
  · rw [if_pos h0] at h'; cases h'; exact ⟨h0, rfl⟩
  · rw [if_neg h0] at h'; simp at h'
theorem runG_ok {f : Nat} {fn : Func} {args : List AV} {xs : List Value} {m r mu : Nat} {sub : Bool} (hfn : T1.E.fn.get f = some fn) (hbody : fn.body = some (bodyOf fn)) (num : NumSpec) (grow : ∀ t d, okTD t d = true → meas t d < mu → GrowSpec t d)
    (h4 : sub = true → ∀ d, okTD 4 d = true → meas 4 d ≤ mu → SubSpec 85 d) (h5 : sub = true → ∀ d, okTD 5 d = true → meas 5 d ≤ mu → SubSpec 86 d) (h6 : sub = true → ∀ d, okTD 6 d = true → meas 6 d ≤ mu → SubSpec 87 d)
    (chk : closeB (runG fn args m r mu sub) = true) {wb w : World} {gb : Nat} (hb : Base wb w gb) (hgs : GS wb gb w) (hr : ∀ x, NextIs wb gb w x → x % m = r) (hx : ∀ sl, RVs (rhoG gb sl) args xs) :
    Calls Tryz.prog f xs.toArray w (GrowRes wb gb w) := by
  obtain ⟨sl, g1, g2, g3, g4⟩ := id hgs
  cases hres : runG fn args m r mu sub with
  | no => rw [hres] at chk; cases chk
  | ok v h c tl =>
    rw [hres] at chk
    have hgw : gb < w.heap.size := Nat.lt_of_lt_of_le hb.1 hb.2.1
    have inn : ∀ n L, rhoG gb sl n = some L → L.blk < w.heap.size := by
      intro n L hL
      unfold rhoG at hL
      split at hL
      · cases hL; exact hgw
      · split at hL
        · cases hL; show 0 < w.heap.size; omega
        · cases hL
    have rh : RH gb (rhoG gb sl) (fun n => hG.get n) w := by
      refine ⟨fun n o hg => ?_, fun n k a b L M hn _ _ _ _ ho => ?_, inn⟩
      · obtain ⟨rfl, rfl⟩ := hG_get hg
        refine ⟨gLoc gb, rfl, fun i v hv => ?_, trivial⟩
        match i, hv with
        | 0, hv => cases hv; exact ⟨sl, g1, .op 90 (vloc sl) rfl g4.one⟩
        | 1, hv => cases hv; exact ⟨_, g2, .nils⟩
        | i + 2, hv => simp at hv
      · obtain ⟨_, rfl⟩ := hG_get hn
        cases ho
    have inv : InvG wb w gb m r gb (rhoG gb sl) (fun n => hG.get n) w := by
      refine ⟨Nat.le_refl _, fun _ _ _ => rfl, fun n o L hn ho _ => ?_, fun n o L h0 hn _ => ?_, rfl, fun o ho => ?_, hgs, rfl, hb, fun y _ => hr, fun i L hL ht => ?_⟩
      · obtain ⟨_, rfl⟩ := hG_get hn; cases ho
      · exact absurd (hG_get hn).1 h0
      · obtain ⟨_, rfl⟩ := hG_get ho; rfl
      · unfold rhoG at hL
        split at hL
        · cases hL; cases ht
        · split at hL
          · cases hL; cases ht
          · cases hL
    refine run_gen (I := invG wb w gb m r) (B := gb) (ρ := rhoG gb sl) (G := fun n => hG.get n) (E := EG m r mu sub) ⟨envOK_con _, invG_ok _ _ _ _ _, conG_ok num grow h4 h5 h6 wb w gb⟩ bodyOK hfn hbody (show enter (EG m r mu sub) (exec (EG m r mu sub) 2000) sG args fn (bodyOf fn) = _ from hres) (hx sl) rh inv (Nat.le_of_lt hgw) (fun n hn => ?_) (fun n hn _ => ?_) (fun _ _ h => h) fun u ρ' G' w' A J => close A J chk
    · have hn' : 100 ≤ n := hn
      cases hg : sG.h.get n with
      | none => rfl
      | some o => have := (hG_get (n := n) (o := o) hg).1; omega
    · have hn' : 100 ≤ n := hn
      unfold rhoG
      rw [if_neg (by omega), if_neg (by omega)]
theorem allB'_ok {α : Type} {f : α → Bool} : ∀ {l : List α}, allB' f l = true → ∀ x ∈ l, f x = true
  | [], _, x, hx => by simp at hx
  | y :: l, h, x, hx => by
    have h' : bE (f y) (allB' f l) false = true := h
    cases hy : f y with
    | false => rw [hy] at h'; cases h'
    | true =>
      rw [hy, bE_true] at h'
      rcases List.mem_cons.1 hx with rfl | hx
      · exact hy
      · exact allB'_ok h' x hx
theorem rs0_has {m x : Nat} (hm : 0 < m) : x % m ∈ rs0 m := List.mem_range.2 (Nat.mod_lt _ hm)
section
variable {wb w : World} {gb : Nat}
theorem p0_rv {sl : Value} : RV (rhoG gb sl) p0 (.pointer (some ⟨gb, 0, none⟩)) := .ptr 0 0 (gLoc gb) rfl
theorem nat_rv {ρ : Rho} (n : Nat) : RV ρ (nat n) (.int .i64 (n : Int)) := .int _ _
end
theorem grow_of {t d m : Nat} (hm : 0 < m) (chk : gChk t m d = true) (num : NumSpec) (grow : ∀ t' d', okTD t' d' = true → meas t' d' < meas t d → GrowSpec t' d')
    (h4 : ∀ d', okTD 4 d' = true → meas 4 d' ≤ meas t d → SubSpec 85 d') (h5 : ∀ d', okTD 5 d' = true → meas 5 d' ≤ meas t d → SubSpec 86 d') (h6 : ∀ d', okTD 6 d' = true → meas 6 d' ≤ meas t d → SubSpec 87 d') : GrowSpec t d := by
  intro wb w gb hb hgs
  obtain ⟨x, hx, hn⟩ := hgs.next
  exact runG_ok fn45 body45 num grow (fun _ => h4) (fun _ => h5) (fun _ => h6) (allB'_ok chk (x % m) (rs0_has hm)) (xs := [_, _, _]) hb hgs (fun y hy => by rw [hy.uniq hn]) fun sl => .cons p0_rv (.cons (nat_rv t) (.cons (nat_rv d) .nil))
theorem sub_of {f : Nat} {fn : Func} {t d m m2 : Nat} (hfn : T1.E.fn.get f = some fn) (hbody : fn.body = some (bodyOf fn)) (hm : 0 < m) (hm2 : 0 < m2) (_hd : d ≤ 3) (chk : sChk fn t m m2 d = true) (num : NumSpec) (grow : ∀ t' d', okTD t' d' = true → meas t' d' < meas t d → GrowSpec t' d') : SubSpec f d := by
  intro k hk _ wb w gb hb hgs
  obtain ⟨x, hx, hn⟩ := hgs.next
  have no : ∀ {P : Prop}, false = true → P := fun h => by cases h
  exact runG_ok hfn hbody num grow no no no (allB'_ok (allB'_ok chk (k % m) (rs0_has hm)) (x % m2) (rs0_has hm2)) (xs := [_, _, _]) hb hgs (fun y hy => by rw [hy.uniq hn]) fun sl => .cons p0_rv (.cons (.cong m _ k hk rfl) (.cons (nat_rv d) .nil))
theorem subz_of {f : Nat} {fn : Func} {t d m2 : Nat} (hfn : T1.E.fn.get f = some fn) (hbody : fn.body = some (bodyOf fn)) (hm2 : 0 < m2) (_hd : 3 < d) (chk : zChk fn t m2 d = true) (num : NumSpec) (grow : ∀ t' d', okTD t' d' = true → meas t' d' < meas t d → GrowSpec t' d') : SubSpec f d := by
  intro k hk hk0 wb w gb hb hgs
  obtain rfl : k = 0 := by omega
  obtain ⟨x, hx, hn⟩ := hgs.next
  have no : ∀ {P : Prop}, false = true → P := fun h => by cases h
  exact runG_ok hfn hbody num grow no no no (allB'_ok chk (x % m2) (rs0_has hm2)) (xs := [_, _, _]) hb hgs (fun y hy => by rw [hy.uniq hn]) fun sl => .cons p0_rv (.cons (nat_rv 0) (.cons (nat_rv d) .nil))
theorem rank_le (t : Nat) : rank t ≤ 2 := by unfold rank; split <;> omega
theorem okTD_iff {t d : Nat} (h : okTD t d = true) : 1 ≤ t ∧ t ≤ 8 ∧ 1 ≤ d ∧ (d ≤ 3 ∨ rank t + d ≤ 6) := by
  unfold okTD at h
  rw [Bool.and_eq_true, Bool.and_eq_true, Bool.and_eq_true, Bool.or_eq_true] at h
  exact ⟨ble_true h.1.1.1, ble_true h.1.1.2, ble_true h.1.2, h.2.imp ble_true ble_true⟩
theorem sub4 (num : NumSpec) {d : Nat} (hok : okTD 4 d = true) (grow : ∀ t' d', okTD t' d' = true → meas t' d' < meas 4 d → GrowSpec t' d') : SubSpec 85 d := by
  obtain ⟨_, _, h1, h2⟩ := okTD_iff hok
  have : rank 4 = 0 := rfl
  have : d = 1 ∨ d = 2 ∨ d = 3 ∨ d = 4 ∨ d = 5 ∨ d = 6 := by omega
  rcases this with rfl | rfl | rfl | rfl | rfl | rfl
  · exact sub_of fn85 body85 (by omega) (by omega) (by omega) s4_1 num grow
  · exact sub_of fn85 body85 (by omega) (by omega) (by omega) s4_2 num grow
  · exact sub_of fn85 body85 (by omega) (by omega) (by omega) s4_3 num grow
  · exact subz_of fn85 body85 (by omega) (by omega) s4_4 num grow
  · exact subz_of fn85 body85 (by omega) (by omega) s4_5 num grow
  · exact subz_of fn85 body85 (by omega) (by omega) s4_6 num grow
theorem sub5 (num : NumSpec) {d : Nat} (hok : okTD 5 d = true) (grow : ∀ t' d', okTD t' d' = true → meas t' d' < meas 5 d → GrowSpec t' d') : SubSpec 86 d := by
  obtain ⟨_, _, h1, h2⟩ := okTD_iff hok
  have : rank 5 = 1 := rfl
  have : d = 1 ∨ d = 2 ∨ d = 3 ∨ d = 4 ∨ d = 5 := by omega
  rcases this with rfl | rfl | rfl | rfl | rfl
  · exact sub_of fn86 body86 (by omega) (by omega) (by omega) s5_1 num grow
  · exact sub_of fn86 body86 (by omega) (by omega) (by omega) s5_2 num grow
  · exact sub_of fn86 body86 (by omega) (by omega) (by omega) s5_3 num grow
  · exact subz_of fn86 body86 (by omega) (by omega) s5_4 num grow
  · exact subz_of fn86 body86 (by omega) (by omega) s5_5 num grow
theorem sub6 (num : NumSpec) {d : Nat} (hok : okTD 6 d = true) (grow : ∀ t' d', okTD t' d' = true → meas t' d' < meas 6 d → GrowSpec t' d') : SubSpec 87 d := by
  obtain ⟨_, _, h1, h2⟩ := okTD_iff hok
  have : rank 6 = 1 := rfl
  have : d = 1 ∨ d = 2 ∨ d = 3 ∨ d = 4 ∨ d = 5 := by omega
  rcases this with rfl | rfl | rfl | rfl | rfl
  · exact sub_of fn87 body87 (by omega) (by omega) (by omega) s6_1 num grow
  · exact sub_of fn87 body87 (by omega) (by omega) (by omega) s6_2 num grow
  · exact sub_of fn87 body87 (by omega) (by omega) (by omega) s6_3 num grow
  · exact subz_of fn87 body87 (by omega) (by omega) s6_4 num grow
  · exact subz_of fn87 body87 (by omega) (by omega) s6_5 num grow
theorem grow_all (num : NumSpec) : ∀ (n t d : Nat), meas t d ≤ n → okTD t d = true → GrowSpec t d := by
  intro n
  induction n with
  | zero | succ n ih =>
    intro t d hn hok
    have grow : ∀ t' d', okTD t' d' = true → meas t' d' < meas t d → GrowSpec t' d' := fun t' d' h1 h2 => by
      first
        | exact ih t' d' (by omega) h1
        | omega
    have h4 : ∀ d', okTD 4 d' = true → meas 4 d' ≤ meas t d → SubSpec 85 d' := fun d' h1 h2 => sub4 num h1 fun t' d'' h3 h4 => grow t' d'' h3 (by omega)
    have h5 : ∀ d', okTD 5 d' = true → meas 5 d' ≤ meas t d → SubSpec 86 d' := fun d' h1 h2 => sub5 num h1 fun t' d'' h3 h4 => grow t' d'' h3 (by omega)
    have h6 : ∀ d', okTD 6 d' = true → meas 6 d' ≤ meas t d → SubSpec 87 d' := fun d' h1 h2 => sub6 num h1 fun t' d'' h3 h4 => grow t' d'' h3 (by omega)
    obtain ⟨a1, a2, a3, a4⟩ := okTD_iff hok
    have hd : d ≤ 6 := by omega
    have ht : t = 1 ∨ t = 2 ∨ t = 3 ∨ t = 4 ∨ t = 5 ∨ t = 6 ∨ t = 7 ∨ t = 8 := by omega
    have hd : d = 1 ∨ d = 2 ∨ d = 3 ∨ d = 4 ∨ d = 5 ∨ d = 6 := by omega
    have r1 : rank 1 = 2 := rfl
    have r5 : rank 5 = 1 := rfl
    have r6 : rank 6 = 1 := rfl
    clear hn
    rcases ht with rfl | rfl | rfl | rfl | rfl | rfl | rfl | rfl <;> rcases hd with rfl | rfl | rfl | rfl | rfl | rfl
    · exact grow_of (by omega) g1_1 num grow h4 h5 h6
    · exact grow_of (by omega) g1_2 num grow h4 h5 h6
    · exact grow_of (by omega) g1_3 num grow h4 h5 h6
    · exact grow_of (by omega) g1_4 num grow h4 h5 h6
    · exfalso; omega
    · exfalso; omega
    · exact grow_of (by omega) g2_1 num grow h4 h5 h6
    · exact grow_of (by omega) g2_2 num grow h4 h5 h6
    · exact grow_of (by omega) g2_3 num grow h4 h5 h6
    · exact grow_of (by omega) g2_4 num grow h4 h5 h6
    · exact grow_of (by omega) g2_5 num grow h4 h5 h6
    · exact grow_of (by omega) g2_6 num grow h4 h5 h6
    · exact grow_of (by omega) g3_1 num grow h4 h5 h6
    · exact grow_of (by omega) g3_2 num grow h4 h5 h6
    · exact grow_of (by omega) g3_3 num grow h4 h5 h6
    · exact grow_of (by omega) g3_4 num grow h4 h5 h6
    · exact grow_of (by omega) g3_5 num grow h4 h5 h6
    · exact grow_of (by omega) g3_6 num grow h4 h5 h6
    · exact grow_of (by omega) g4_1 num grow h4 h5 h6
    · exact grow_of (by omega) g4_2 num grow h4 h5 h6
    · exact grow_of (by omega) g4_3 num grow h4 h5 h6
    · exact grow_of (by omega) g4_4 num grow h4 h5 h6
    · exact grow_of (by omega) g4_5 num grow h4 h5 h6
    · exact grow_of (by omega) g4_6 num grow h4 h5 h6
    · exact grow_of (by omega) g5_1 num grow h4 h5 h6
    · exact grow_of (by omega) g5_2 num grow h4 h5 h6
    · exact grow_of (by omega) g5_3 num grow h4 h5 h6
    · exact grow_of (by omega) g5_4 num grow h4 h5 h6
    · exact grow_of (by omega) g5_5 num grow h4 h5 h6
    · exfalso; omega
    · exact grow_of (by omega) g6_1 num grow h4 h5 h6
    · exact grow_of (by omega) g6_2 num grow h4 h5 h6
    · exact grow_of (by omega) g6_3 num grow h4 h5 h6
    · exact grow_of (by omega) g6_4 num grow h4 h5 h6
    · exact grow_of (by omega) g6_5 num grow h4 h5 h6
    · exfalso; omega
    · exact grow_of (by omega) g7_1 num grow h4 h5 h6
    · exact grow_of (by omega) g7_2 num grow h4 h5 h6
    · exact grow_of (by omega) g7_3 num grow h4 h5 h6
    · exact grow_of (by omega) g7_4 num grow h4 h5 h6
    · exact grow_of (by omega) g7_5 num grow h4 h5 h6
    · exact grow_of (by omega) g7_6 num grow h4 h5 h6
    · exact grow_of (by omega) g8_1 num grow h4 h5 h6
    · exact grow_of (by omega) g8_2 num grow h4 h5 h6
    · exact grow_of (by omega) g8_3 num grow h4 h5 h6
    · exact grow_of (by omega) g8_4 num grow h4 h5 h6
    · exact grow_of (by omega) g8_5 num grow h4 h5 h6
    · exact grow_of (by omega) g8_6 num grow h4 h5 h6
theorem grow45 (num : NumSpec) {t d : Nat} (h : okTD t d = true) : GrowSpec t d := grow_all num _ t d (Nat.le_refl _) h
end T1
