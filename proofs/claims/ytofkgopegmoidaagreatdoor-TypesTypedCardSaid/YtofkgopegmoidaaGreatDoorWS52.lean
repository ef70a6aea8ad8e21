/- A part of an evaluator of the program's operations over values that are known whole or in part, and of the proof that what it answers holds of the program's run. No condition. -/
import Derived.Test.YtofkgopegmoidaaGreatDoorWS50
import Derived.Test.YtofkgopegmoidaaGreatDoorWS37
import Derived.WalkKit
namespace T1
open Go Go.Ab Go.Proofs
open Go.RowKit (Below)
/-! The grower's own block, and its next number. -/
/-- the numbers that are left to be read -/
def U8s (w0 : World) (gb : Nat) (sl : Value) : Prop := (∃ a c, sl = .slice a 0 c) ∨ ∃ b off l c, sl = .slice (some ⟨b, off, none⟩) l c ∧ l ≤ c ∧ b < w0.heap.size ∧ b ≠ gb ∧ ∀ i, i < l → ∃ x : Nat, x ≤ 255 ∧ w0.cell? ⟨b, off + i, none⟩ = some (.int .u8 x)
def GS (w0 : World) (gb : Nat) (w : World) : Prop := ∃ sl, w.cell? ⟨gb, 0, none⟩ = some sl ∧ w.cell? ⟨gb, 1, none⟩ = some (.slice none 0 0) ∧ w.frozen? ⟨gb, 0, none⟩ = false ∧ U8s w0 gb sl
theorem U8s.one {w0 : World} {gb : Nat} {sl : Value} (h : U8s w0 gb sl) : sl.oneCell' = true := by
  rcases h with ⟨a, c, rfl⟩ | ⟨b, off, l, c, rfl, _⟩ <;> rfl
theorem U8s.rebase {w0 w1 : World} {gb : Nat} {sl : Value} (h : U8s w0 gb sl) (hs : w0.heap.size ≤ w1.heap.size) (hw : ∀ k, k < w0.heap.size → k ≠ gb → w1.heap[k]? = w0.heap[k]?) : U8s w1 gb sl := by
  rcases h with h | ⟨b, off, l, c, h1, h2, h3, h4, h5⟩
  · exact .inl h
  · refine .inr ⟨b, off, l, c, h1, h2, by omega, h4, fun i hi => ?_⟩
    obtain ⟨x, h6, h7⟩ := h5 i hi
    exact ⟨x, h6, by rw [World.cell?_of_block (w := w0) (hw b h3 h4)]; exact h7⟩
theorem GS.rebase {w0 w1 w : World} {gb : Nat} (h : GS w0 gb w) (hs : w0.heap.size ≤ w1.heap.size) (hw : ∀ k, k < w0.heap.size → k ≠ gb → w1.heap[k]? = w0.heap[k]?) : GS w1 gb w := by
  obtain ⟨sl, h1, h2, h3, h4⟩ := h
  exact ⟨sl, h1, h2, h3, h4.rebase hs hw⟩
theorem GS.same {w0 w w' : World} {gb : Nat} (h : GS w0 gb w) (hw : w'.heap[gb]? = w.heap[gb]?) : GS w0 gb w' := by
  obtain ⟨sl, h1, h2, h3, h4⟩ := h
  exact ⟨sl, by rw [World.cell?_of_block (w := w) hw]; exact h1, by rw [World.cell?_of_block (w := w) hw]; exact h2, by rw [World.frozen?_of_block (w := w) hw]; exact h3, h4⟩
set_option maxHeartbeats 2000000 in
theorem take_none (gb : Nat) (a : Option Addr) (c : Nat) (w : World) (h0 : w.cell? ⟨gb, 0, none⟩ = some (.slice a 0 c)) :
    Calls Tryz.prog 82 #[.pointer (some ⟨gb, 0, none⟩)] w fun e w' => e = .returned (.int .i64 0) ∧ w' = w := by
  go_enter Tryz.func82, Tryz.ntmps82
  go_wp2
  go_ret
  exact ⟨rfl, rfl⟩
/-- what is left of the numbers -/
def TakeSl (b off l c : Nat) (sl : Value) : Prop := sl = .slice (some ⟨b, off + 1, none⟩) l (c - 1) ∨ (l = 0 ∧ ∃ a, sl = .slice a 0 0)
set_option maxHeartbeats 2000000 in
theorem take_some (gb b off l c : Nat) (x : Int) (w : World) (h0 : w.cell? ⟨gb, 0, none⟩ = some (.slice (some ⟨b, off, none⟩) (l + 1) c)) (hl : l + 1 ≤ c) (hf : w.frozen? ⟨gb, 0, none⟩ = false) (hx : w.cell? ⟨b, off, none⟩ = some (.int .u8 x)) (hx0 : 0 ≤ x) (hx1 : x ≤ 255) :
    Calls Tryz.prog 82 #[.pointer (some ⟨gb, 0, none⟩)] w fun e w' => e = .returned (.int .i64 x) ∧ ∃ sl, TakeSl b off l c sl ∧ w' = w.setCell ⟨gb, 0, none⟩ sl := by
  go_enter Tryz.func82, Tryz.ntmps82
  go_wp2
  all_goals go_ret
  all_goals (refine ⟨rfl, _, ?_, rfl⟩)
  all_goals first
    | exact .inl rfl
    | exact .inr ⟨by omega, _, by congr 1; omega⟩
/-- the number that comes next -/
def NextIs (w0 : World) (gb : Nat) (w : World) (x : Nat) : Prop := ∃ sl, w.cell? ⟨gb, 0, none⟩ = some sl ∧ (((∃ a c, sl = .slice a 0 c) ∧ x = 0) ∨ ∃ b off l c, sl = .slice (some ⟨b, off, none⟩) (l + 1) c ∧ w0.cell? ⟨b, off, none⟩ = some (.int .u8 x))
theorem NextIs.uniq {w0 w : World} {gb x y : Nat} (h : NextIs w0 gb w x) (k : NextIs w0 gb w y) : x = y := by
  obtain ⟨sl, h1, h2⟩ := h
  obtain ⟨sl', k1, k2⟩ := k
  rw [h1] at k1
  cases k1
  rcases h2 with ⟨⟨a, c, rfl⟩, rfl⟩ | ⟨b, off, l, c, rfl, h3⟩
  · rcases k2 with ⟨_, rfl⟩ | ⟨b, off, l, c, h4, _⟩
    · rfl
    · cases h4
  · rcases k2 with ⟨⟨a, c', h4⟩, _⟩ | ⟨b', off', l', c', h4, h5⟩
    · cases h4
    · cases h4
      rw [h3] at h5
      have := Option.some.inj h5
      simp at this
      omega
theorem take_gs {w0 w : World} {gb : Nat} (hw : ∀ k, k < w0.heap.size → k ≠ gb → w.heap[k]? = w0.heap[k]?) (h : GS w0 gb w) :
    Calls Tryz.prog 82 #[.pointer (some ⟨gb, 0, none⟩)] w fun e w' => ∃ x : Nat, x ≤ 255 ∧ NextIs w0 gb w x ∧ e = .returned (.int .i64 x) ∧ GS w0 gb w' ∧ w'.heap.size = w.heap.size ∧ (∀ k, k ≠ gb → w'.heap[k]? = w.heap[k]?) ∧ Below gb w w' := by
  obtain ⟨sl, h1, h2, h3, h4⟩ := h
  rcases h4 with ⟨a, c, rfl⟩ | ⟨b, off, l, c, rfl, h5, h6, h7, h8⟩
  · refine (take_none gb a c w h1).mono fun e w' ⟨he, hw'⟩ => ?_
    subst hw'
    exact ⟨0, by omega, ⟨_, h1, .inl ⟨⟨a, c, rfl⟩, rfl⟩⟩, he, ⟨_, h1, h2, h3, .inl ⟨a, c, rfl⟩⟩, rfl, fun _ _ => rfl, Below.refl _ _⟩
  · cases l with
    | zero =>
      refine (take_none gb _ c w h1).mono fun e w' ⟨he, hw'⟩ => ?_
      subst hw'
      exact ⟨0, by omega, ⟨_, h1, .inl ⟨⟨_, c, rfl⟩, rfl⟩⟩, he, ⟨_, h1, h2, h3, .inl ⟨_, c, rfl⟩⟩, rfl, fun _ _ => rfl, Below.refl _ _⟩
    | succ l =>
      obtain ⟨x, hx, hx2⟩ := h8 0 (by omega)
      have hx3 : w.cell? ⟨b, off, none⟩ = some (.int .u8 x) := by rw [World.cell?_of_block (w := w0) (hw b h6 h7)]; exact hx2
      refine (take_some gb b off l c x w h1 h5 h3 hx3 (by omega) (by omega)).mono fun e w' ⟨he, sl, hsl, hw'⟩ => ?_
      subst hw'
      refine ⟨x, hx, ⟨_, h1, .inr ⟨b, off, l, c, rfl, hx2⟩⟩, he, ⟨sl, World.cell?_setCell_same _ _ _ h1, ?_, by rw [World.frozen?_setCell]; exact h3, ?_⟩, World.size_setCell _ _ _, fun k hk => Below.heap_setCell _ _ _ _ hk, (Below.refl gb w).setCell (Nat.le_refl _) _⟩
      · rw [World.cell?_setCell_other _ _ _ _ (by simp)]; exact h2
      · rcases hsl with rfl | ⟨rfl, a, rfl⟩
        · refine .inr ⟨b, off + 1, l, c - 1, rfl, by omega, h6, h7, fun i hi => ?_⟩
          obtain ⟨y, hy, hy2⟩ := h8 (i + 1) (by omega)
          exact ⟨y, hy, by rw [show off + 1 + i = off + (i + 1) by omega]; exact hy2⟩
        · exact .inl ⟨a, 0, rfl⟩
end T1
namespace T1
open Go Go.Ab Go.Proofs
open Go.RowKit (Below)
theorem GS.next {w0 w : World} {gb : Nat} (h : GS w0 gb w) : ∃ x, x ≤ 255 ∧ NextIs w0 gb w x := by
  obtain ⟨sl, h1, _, _, h4⟩ := h
  rcases h4 with ⟨a, c, rfl⟩ | ⟨b, off, l, c, rfl, _, _, _, h5⟩
  · exact ⟨0, by omega, _, h1, .inl ⟨⟨a, c, rfl⟩, rfl⟩⟩
  · cases l with
    | zero => exact ⟨0, by omega, _, h1, .inl ⟨⟨_, c, rfl⟩, rfl⟩⟩
    | succ l =>
      obtain ⟨x, hx, hx2⟩ := h5 0 (by omega)
      exact ⟨x, hx, _, h1, .inr ⟨b, off, l, c, rfl, hx2⟩⟩
/-- What growing an expression comes to. -/
def GrowRes (wb : World) (gb : Nat) (w : World) (e : Ending) (w' : World) : Prop := ∃ (cs : List Value) (ex : Ex), e = .returned (.agg cs.toArray) ∧ Good ex ∧ IsEx w' (fun k => w.heap.size ≤ k ∧ k < w'.heap.size) ex cs ∧ Below gb w w' ∧ w.heap.size ≤ w'.heap.size ∧
  (∀ k, k < w.heap.size → k ≠ gb → w'.heap[k]? = w.heap[k]?) ∧ GS wb gb w'
/-- what the numbers lie in has stayed since then -/
def Base (wb w0 : World) (gb : Nat) : Prop := gb < wb.heap.size ∧ wb.heap.size ≤ w0.heap.size ∧ ∀ k, k < wb.heap.size → k ≠ gb → w0.heap[k]? = wb.heap[k]?
/-- blocks that nobody turns -/
def Tg (w0 : World) (ρ : Rho) (G : Hp) (w : World) (k : Nat) : Prop := w0.heap.size ≤ k ∧ k < w.heap.size ∧ ∀ n o L, G n = some o → o.own = true → ρ n = some L → L.blk ≠ k
def gLoc (gb : Nat) : Go.Ab.Loc := ⟨gb, 0, 0, undef, 0⟩
structure InvG (wb w0 : World) (gb m r : Nat) (B : Nat) (ρ : Rho) (G : Hp) (w : World) : Prop where
  sz : w0.heap.size ≤ w.heap.size
  old : ∀ k, k < w0.heap.size → k ≠ gb → w.heap[k]? = w0.heap[k]?
  own : ∀ n o L, G n = some o → o.own = true → ρ n = some L → w0.heap.size ≤ L.blk
  far : ∀ n o L, n ≠ 0 → G n = some o → ρ n = some L → L.blk ≠ gb
  g0 : ρ 0 = some (gLoc gb)
  ro : ∀ o, G 0 = some o → o.own = false
  gs : GS wb gb w
  bb : B = gb
  base : Base wb w0 gb
  nx : ∀ y, G 0 = some (.cells .ro [.op 90, y]) → ∀ x, NextIs wb gb w x → x % m = r
  tr : ∀ i L, ρ i = some L → L.tag = 10 → ∃ (cs : List Value) (ex : Ex), Good ex ∧ IsEx w (Tg w0 ρ G w) ex cs ∧ ∀ j, j < 7 → ∃ M, ρ (i + j) = some M ∧ M.tag = 10 + j ∧ cs[j]? = some M.val
def invG (wb w0 : World) (gb m r : Nat) : Inv := fun B ρ G w => InvG wb w0 gb m r B ρ G w
theorem InvG.lt {wb w0 : World} {gb m r B : Nat} {ρ : Rho} {G : Hp} {w : World} (J : InvG wb w0 gb m r B ρ G w) : gb < w0.heap.size := Nat.lt_of_lt_of_le J.base.1 J.base.2.1
theorem InvG.baseW {wb w0 : World} {gb m r B : Nat} {ρ : Rho} {G : Hp} {w : World} (J : InvG wb w0 gb m r B ρ G w) : Base wb w gb :=
  ⟨J.base.1, Nat.le_trans J.base.2.1 J.sz, fun k hk hne => (J.old k (Nat.lt_of_lt_of_le hk J.base.2.1) hne).trans (J.base.2.2 k hk hne)⟩
theorem NextIs.same {w0 w w' : World} {gb x : Nat} (h : NextIs w0 gb w x) (hw : w'.heap[gb]? = w.heap[gb]?) : NextIs w0 gb w' x := by
  obtain ⟨sl, h1, h2⟩ := h
  exact ⟨sl, by rw [World.cell?_of_block (w := w) hw]; exact h1, h2⟩
theorem invG_ok (wb w0 : World) (gb m r : Nat) : InvOK (invG wb w0 gb m r) := by
  intro B ρ G w ρ' G' w' J st
  have hsame : ∀ k, k < w0.heap.size → w'.heap[k]? = w.heap[k]? := fun k hk => st.fr k (Nat.lt_of_lt_of_le hk J.sz) fun n o L hg ho hl he => by have := J.own n o L hg ho hl; omega
  have new : ∀ n L, ρ n = none → ρ' n = some L → w0.heap.size ≤ L.blk := fun n L hn hl => by
    rcases st.nw n hn L hl with h | ⟨k, o2, M, k1, k2, k3, k4⟩
    · have := J.sz; omega
    · rw [← k4]; exact J.own k o2 M k1 k2 k3
  have hg := hsame gb J.lt
  refine ⟨Nat.le_trans J.sz st.sz, fun k hk hne => (hsame k hk).trans (J.old k hk hne), fun n o L hg ho hl => ?_, fun n o L hn hg hl => ?_, st.le _ _ J.g0, fun o ho => ?_, J.gs.same hg, J.bb, J.base, fun y hy x hx => ?_, fun i L hL ht => ?_⟩
  · rcases st.go n o hg with ⟨o1, hg1, ho1⟩ | hn
    · cases hr : ρ n with
      | none => exact new n L hr hl
      | some M =>
        have := st.le n M hr
        rw [hl] at this; cases this
        exact J.own n o1 L hg1 (ho1 ho) hr
    · exact new n L hn hl
  · have hlt := J.lt
    rcases st.go n o hg with ⟨o1, hg1, _⟩ | hn'
    · cases hr : ρ n with
      | none => have := new n L hr hl; omega
      | some M =>
        have := st.le n M hr
        rw [hl] at this; cases this
        exact J.far n o1 L hn hg1 hr
    · have := new n L hn' hl; omega
  · rcases st.go 0 o ho with ⟨o1, hg1, h1⟩ | hn
    · cases h : o.own with
      | false => rfl
      | true => have := J.ro o1 hg1; rw [h1 h] at this; cases this
    · rw [J.g0] at hn; cases hn
  · rcases st.go 0 _ hy with ⟨o1, hg1, _⟩ | hn
    · have h2 := st.ro 0 o1 hg1 (J.ro o1 hg1)
      rw [hy] at h2; cases h2
      exact J.nx y hg1 x (hx.same hg.symm)
    · rw [J.g0] at hn; cases hn
  · cases hr : ρ i with
    | none => rw [st.tg i hr L hL] at ht; cases ht
    | some M =>
      have := st.le i M hr
      rw [hL] at this; cases this
      obtain ⟨cs, ex, h1, h2, h3⟩ := J.tr i L hr ht
      refine ⟨cs, ex, h1, h2.mono (fun k hk => ⟨hk.1, Nat.lt_of_lt_of_le hk.2.1 st.sz, fun n o L hg ho hl he => ?_⟩) (fun k hk => st.fr k hk.2.1 hk.2.2), fun j hj => ?_⟩
      · obtain ⟨M, k1, k2, k3⟩ := h3 j hj
        exact ⟨M, st.le _ _ k1, k2, k3⟩
      · have old : ∀ o1, G n = some o1 → o1.own = true → ρ n = some L → False := fun o1 a b c => hk.2.2 n o1 L a b c he
        have newn : ρ n = none → False := fun hn => by
          rcases st.nw n hn L hl with h | ⟨q, o2, M, k1, k2, k3, k4⟩
          · have := hk.2.1; omega
          · exact hk.2.2 q o2 M k1 k2 k3 (by rw [k4]; exact he)
        rcases st.go n o hg with ⟨o1, hg1, ho1⟩ | hn
        · cases hrn : ρ n with
          | none => exact newn hrn
          | some M =>
            have := st.le n M hrn
            rw [hl] at this; cases this
            exact old o1 hg1 (ho1 ho) hrn
        · exact newn hn
/-- the heap of the evaluator's when the grower's block has turned -/
theorem rhG {B : Nat} {ρ ρ' : Rho} {G : Hp} {w w' : World} {gb : Nat} {w0 : World} {x y : AV} (rh : RH B ρ G w) (hg0 : ρ 0 = some (gLoc gb)) (hG : G 0 = some (.cells .ro [x, y])) (far : ∀ n o L, n ≠ 0 → G n = some o → ρ n = some L → L.blk ≠ gb)
    (hy : RV ρ y (.slice none 0 0)) (hs : w.heap.size ≤ w'.heap.size) (hw : ∀ k, k < w.heap.size → k ≠ gb → w'.heap[k]? = w.heap[k]?) (gs : GS w0 gb w') (le : ρ.le ρ') (inn : ∀ n L, ρ' n = some L → L.blk < w'.heap.size) :
    RH B ρ' (upF G 0 (some (.cells .ro [.any, y]))) w' := by
  have loc : ∀ n o, G n = some o → ∀ L, ρ' n = some L → ρ n = some L := fun n o hg L hL => by
    obtain ⟨M, hM, _⟩ := rh.blk n o hg
    have := le n M hM
    rw [hL] at this; cases this
    exact hM
  refine ⟨fun n o hn => ?_, fun n k a b L M hn hk hL hM hnk ho q ha hb hblk => ?_, inn⟩
  · by_cases h : n = 0
    · subst h
      rw [upF_same] at hn; cases hn
      obtain ⟨sl, h1, h2, _, _⟩ := gs
      refine ⟨gLoc gb, le _ _ hg0, fun i v hv => ?_, trivial⟩
      match i, hv with
      | 0, hv => cases hv; exact ⟨sl, h1, .any _⟩
      | 1, hv => cases hv; exact ⟨_, h2, hy.mono le⟩
      | i + 2, hv => simp at hv
    · rw [upF_other _ _ _ h] at hn
      obtain ⟨L, hL, hr⟩ := rh.blk n o hn
      exact ⟨L, le _ _ hL, (hr.mono le).same (hw _ (rh.inn n L hL) (far n o L h hn hL))⟩
  · by_cases h : n = 0
    · subst h
      rw [upF_same] at hn; cases hn; cases ho
    · rw [upF_other _ _ _ h] at hn
      by_cases h' : k = 0
      · subst h'
        rw [upF_same] at hk; cases hk
        exact rh.dis n 0 a _ L M hn hG (loc n a hn L hL) (loc 0 _ hG M hM) hnk ho q ha hb hblk
      · rw [upF_other _ _ _ h'] at hk
        exact rh.dis n k a b L M hn hk (loc n a hn L hL) (loc k b hk M hM) hnk ho q ha hb hblk
theorem gCells_eq {h : Tr AB} {x y : AV} (e : gCells h = some (x, y)) : ∃ k, h.get 0 = some (.cells k [x, y]) := by
  obtain ⟨c, hc, e1⟩ := oE_none_eq e
  obtain ⟨k, hk⟩ := cellsAt_eq hc
  match c, e1 with
  | [a, b], e1 => cases e1; exact ⟨k, hk⟩
  | [], e1 => cases e1
  | [_], e1 => cases e1
  | _ :: _ :: _ :: _, e1 => cases e1
theorem opxL_rv {ρ : Rho} : ∀ (k tag a : Nat) (vs : List Value), vs.length = k → (∀ (j : Nat) (u : Value), vs[j]? = some u → ∃ L, ρ (a + j) = some L ∧ L.tag = tag + j ∧ L.val = u ∧ u.oneCell' = true) → RVs ρ (opxL tag a k) vs
  | 0, tag, a, [], _, _ => .nil
  | k + 1, tag, a, v :: vs, hl, h => by
    obtain ⟨L, h1, h2, h3, h4⟩ := h 0 v rfl
    subst h3
    refine .cons (.opx tag a L h1 (by omega) h4) (opxL_rv k (tag + 1) (a + 1) vs (by simpa using hl) fun j u hu => ?_)
    obtain ⟨M, k1, k2, k3, k4⟩ := h (j + 1) u (by simpa using hu)
    exact ⟨M, by rw [show a + 1 + j = a + (j + 1) by omega]; exact k1, by omega, k3, k4⟩
/-- seven fresh names for an expression -/
def rhoX (ρ : Rho) (c : Nat) (cs : List Value) : Rho := fun n => if c ≤ n ∧ n < c + 7 then (cs[n - c]?).map fun v => ⟨0, 0, 0, v, 10 + (n - c)⟩ else ρ n
theorem rhoX_le {ρ : Rho} {c : Nat} {cs : List Value} (fr : ∀ n, c ≤ n → n < c + 7 → ρ n = none) : ρ.le (rhoX ρ c cs) := fun n L h => by
  unfold rhoX
  by_cases hn : c ≤ n ∧ n < c + 7
  · rw [fr n hn.1 hn.2] at h; cases h
  · rw [if_neg hn]; exact h
theorem rhoX_out {ρ : Rho} {c : Nat} {cs : List Value} {n : Nat} (h : n < c ∨ c + 7 ≤ n) : rhoX ρ c cs n = ρ n := by unfold rhoX; rw [if_neg (by omega)]
theorem rhoX_in {ρ : Rho} {c : Nat} {cs : List Value} {j : Nat} (h : j < 7) : rhoX ρ c cs (c + j) = (cs[j]?).map fun v => ⟨0, 0, 0, v, 10 + j⟩ := by
  unfold rhoX; rw [if_pos (by omega), show c + j - c = j by omega]
end T1
