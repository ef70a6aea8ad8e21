/- A part of an evaluator of the program's operations over values that are known whole or in part, and of the proof that what it answers holds of the program's run. No condition. -/
import Derived.Test.YtofkgopegmoidaaGreatDoorWS57
import Derived.WalkKit
namespace Go.Ab
open Go.RowKit (Below)
/-! Trees of several classes in memory, one block that calls turn: an invariant, and what a contract must show. -/
def tcl (c : Nat) : Nat := 100 * c + 10
theorem tcl_inj {a b : Nat} (h : tcl a = tcl b) : a = b := by unfold tcl at h; omega
def bLoc (gb : Nat) : Loc := ⟨gb, 0, 0, undef, 0⟩
/-- blocks that nobody turns -/
def Qt (w0 : World) (ρ : Rho) (G : Hp) (w : World) (k : Nat) : Prop := w0.heap.size ≤ k ∧ k < w.heap.size ∧ ∀ n o L, G n = some o → o.own = true → ρ n = some L → L.blk ≠ k
abbrev KP := Rho → Hp → World → Prop
structure InvU (Q : Nat → Ex → Prop) (K : KP) (w0 : World) (gb : Nat) (B : Nat) (ρ : Rho) (G : Hp) (w : World) : Prop where
  lt : gb < w0.heap.size
  sz : w0.heap.size ≤ w.heap.size
  old : ∀ k, k < w0.heap.size → k ≠ gb → w.heap[k]? = w0.heap[k]?
  own : ∀ n o L, G n = some o → o.own = true → ρ n = some L → w0.heap.size ≤ L.blk
  far : ∀ n o L, n ≠ 0 → G n = some o → ρ n = some L → L.blk ≠ gb
  g0 : ρ 0 = some (bLoc gb)
  ro : ∀ o, G 0 = some o → o.own = false
  bb : B = gb
  tr : ∀ i L c, ρ i = some L → L.tag = tcl c → ∃ (cs : List Value) (ex : Ex), Q c ex ∧ IsEx w (Qt w0 ρ G w) ex cs ∧ ∀ j, j < 7 → ∃ M, ρ (i + j) = some M ∧ M.tag = tcl c + j ∧ cs[j]? = some M.val
  ks : K ρ G w
def invU (Q : Nat → Ex → Prop) (K : KP) (w0 : World) (gb : Nat) : Inv := fun B ρ G w => InvU Q K w0 gb B ρ G w
/-- what is known of the block bears that all else turns -/
def KOK (K : KP) (gb : Nat) : Prop := ∀ (ρ : Rho) (G : Hp) (w : World) (ρ' : Rho) (G' : Hp) (w' : World), K ρ G w → w'.heap[gb]? = w.heap[gb]? → ρ.le ρ' → (∀ n, ρ n = none → ∀ L, ρ' n = some L → L.tag % 100 < 10 → L.tag = 0) → G' 0 = G 0 → K ρ' G' w'
theorem invU_ok {Q : Nat → Ex → Prop} {K : KP} {w0 : World} {gb : Nat} (hK : KOK K gb) : InvOK (invU Q K w0 gb) := by
  intro B ρ G w ρ' G' w' J st
  have hsame : ∀ k, k < w0.heap.size → w'.heap[k]? = w.heap[k]? := fun k hk => st.fr k (Nat.lt_of_lt_of_le hk J.sz) fun n o L hg ho hl he => by have := J.own n o L hg ho hl; omega
  have new : ∀ n L, ρ n = none → ρ' n = some L → w0.heap.size ≤ L.blk := fun n L hn hl => by
    rcases st.nw n hn L hl with h | ⟨k, o2, M, k1, k2, k3, k4⟩
    · have := J.sz; omega
    · rw [← k4]; exact J.own k o2 M k1 k2 k3
  have hg := hsame gb J.lt
  have g0e : G' 0 = G 0 := by
    cases h1 : G 0 with
    | some o => exact st.ro 0 o h1 (J.ro o h1)
    | none =>
      cases h2 : G' 0 with
      | none => rfl
      | some o =>
        rcases st.go 0 o h2 with ⟨o1, h3, _⟩ | h3
        · rw [h1] at h3; cases h3
        · rw [J.g0] at h3; cases h3
  refine ⟨J.lt, Nat.le_trans J.sz st.sz, fun k hk hne => (hsame k hk).trans (J.old k hk hne), fun n o L hg ho hl => ?_, fun n o L hn hg hl => ?_, st.le _ _ J.g0, fun o ho => J.ro o (g0e ▸ ho), J.bb, fun i L c hL ht => ?_, hK _ _ _ _ _ _ J.ks hg st.le (fun n hn L hL _ => st.tg n hn L hL) g0e⟩
  · rcases st.go n o hg with ⟨o1, hg1, ho1⟩ | hn
    · cases hr : ρ n with
      | none => exact new n L hr hl
      | some M =>
        have := st.le n M hr
        rw [hl] at this; cases this
        exact J.own n o1 L hg1 (ho1 ho) hr
    · exact new n L hn hl
  · have hlt := J.lt
    rcases st.go n o hg with ⟨o1, hg1, _⟩ | hn'
    · cases hr : ρ n with
      | none => have := new n L hr hl; omega
      | some M =>
        have := st.le n M hr
        rw [hl] at this; cases this
        exact J.far n o1 L hn hg1 hr
    · have := new n L hn' hl; omega
  · cases hr : ρ i with
    | none => rw [st.tg i hr L hL] at ht; unfold tcl at ht; omega
    | some M =>
      have := st.le i M hr
      rw [hL] at this; cases this
      obtain ⟨cs, ex, h1, h2, h3⟩ := J.tr i L c hr ht
      refine ⟨cs, ex, h1, h2.mono (fun k hk => ⟨hk.1, Nat.lt_of_lt_of_le hk.2.1 st.sz, fun n o L hg ho hl he => ?_⟩) (fun k hk => st.fr k hk.2.1 hk.2.2), fun j hj => ?_⟩
      · obtain ⟨M, k1, k2, k3⟩ := h3 j hj
        exact ⟨M, st.le _ _ k1, k2, k3⟩
      · have newn : ρ n = none → False := fun hn => by
          rcases st.nw n hn L hl with h | ⟨q, o2, M, k1, k2, k3, k4⟩
          · have := hk.2.1; omega
          · exact hk.2.2 q o2 M k1 k2 k3 (by rw [k4]; exact he)
        rcases st.go n o hg with ⟨o1, hg1, ho1⟩ | hn
        · cases hrn : ρ n with
          | none => exact newn hrn
          | some M =>
            have := st.le n M hrn
            rw [hl] at this; cases this
            exact hk.2.2 n o1 L hg1 (ho1 ho) hrn he
        · exact newn hn
/-- fresh names for the cells of a list, tagged -/
def rhoN (ρ : Rho) (c : Nat) (vs : List Value) (tg : Nat → Nat) : Rho := fun n => if c ≤ n ∧ n < c + vs.length then (vs[n - c]?).map fun v => ⟨0, 0, 0, v, tg (n - c)⟩ else ρ n
theorem rhoN_le {ρ : Rho} {c : Nat} {vs : List Value} {tg : Nat → Nat} (fr : ∀ n, c ≤ n → n < c + vs.length → ρ n = none) : ρ.le (rhoN ρ c vs tg) := fun n L h => by
  unfold rhoN
  by_cases hn : c ≤ n ∧ n < c + vs.length
  · rw [fr n hn.1 hn.2] at h; cases h
  · rw [if_neg hn]; exact h
theorem rhoN_out {ρ : Rho} {c : Nat} {vs : List Value} {tg : Nat → Nat} {n : Nat} (h : n < c ∨ c + vs.length ≤ n) : rhoN ρ c vs tg n = ρ n := by unfold rhoN; rw [if_neg (by omega)]
theorem rhoN_in {ρ : Rho} {c : Nat} {vs : List Value} {tg : Nat → Nat} {j : Nat} (h : j < vs.length) : rhoN ρ c vs tg (c + j) = some ⟨0, 0, 0, vs[j], tg j⟩ := by
  unfold rhoN; rw [if_pos (by omega), show c + j - c = j by omega, List.getElem?_eq_getElem h]; rfl
/-- What a call comes to: its result (some of its cells new names), the block (turned, or not), the rest as it was. -/
structure PostU (Q : Nat → Ex → Prop) (K : KP) (gb c : Nat) (ρ : Rho) (G : Hp) (w : World) (v : AV) (m : Nat) (o : Option (Nat × AB)) (e : Ending) (w' : World) (u : Value) (vs : List Value) (tg : Nat → Nat) : Prop where
  he : e = .returned u
  hm : vs.length = m
  one : ∀ x ∈ vs, x.oneCell' = true
  rv : RV (rhoN ρ c vs tg) v u
  sz : w.heap.size ≤ w'.heap.size
  fr : ∀ k, k < w.heap.size → k ≠ gb → w'.heap[k]? = w.heap[k]?
  bel : Below gb w w'
  blk : match o with
    | none => w'.heap[gb]? = w.heap[gb]?
    | some p => p.1 = 0 ∧ p.2.own = false ∧ RB gb (rhoN ρ c vs tg) w' (bLoc gb) p.2
  ks : K (rhoN ρ c vs tg) (updG G o) w'
  tr : ∀ i, i < m → ∀ cc, tg i = tcl cc → ∃ (cs : List Value) (ex : Ex), Q cc ex ∧ IsEx w' (fun k => w.heap.size ≤ k ∧ k < w'.heap.size) ex cs ∧ ∀ j, j < 7 → i + j < m ∧ vs[i + j]? = cs[j]? ∧ tg (i + j) = tcl cc + j
theorem wrapU {Q : Nat → Ex → Prop} {K : KP} {w0 : World} {gb B : Nat} {ρ : Rho} {G : Hp} {w : World} {P : Program} {f : Nat} {xs : List Value} {c m : Nat} {v : AV} {o : Option (Nat × AB)} (J : InvU Q K w0 gb B ρ G w) (rh : RH B ρ G w) (fr : ∀ n, c ≤ n → n < c + m → ρ n = none)
    (hc : Calls P f xs.toArray w fun e w' => ∃ u vs tg, PostU Q K gb c ρ G w v m o e w' u vs tg) :
    Calls P f xs.toArray w fun e w' => ∃ u ρ', e = .returned u ∧ ρ.le ρ' ∧ (∀ n, (n < c ∨ c + m ≤ n) → ρ' n = ρ n) ∧ RV ρ' v u ∧ RH B ρ' (updG G o) w' ∧ Below B w w' ∧ invU Q K w0 gb B ρ' (updG G o) w' := by
  refine hc.mono fun e w' ⟨u, vs, tg, p⟩ => ?_
  obtain rfl := p.hm
  have le : ρ.le (rhoN ρ c vs tg) := rhoN_le fr
  have hgbw : gb < w.heap.size := Nat.lt_of_lt_of_le J.lt J.sz
  have loc0 : ∀ n L, rhoN ρ c vs tg n = some L → (L.blk = 0 ∧ c ≤ n ∧ n < c + vs.length) ∨ ρ n = some L := by
    intro n L hL
    by_cases hn : c ≤ n ∧ n < c + vs.length
    · unfold rhoN at hL
      rw [if_pos hn, Option.map_eq_some_iff] at hL
      obtain ⟨x, _, rfl⟩ := hL
      exact .inl ⟨rfl, hn⟩
    · rw [rhoN_out (by omega)] at hL; exact .inr hL
  have inn : ∀ n L, rhoN ρ c vs tg n = some L → L.blk < w'.heap.size := by
    intro n L hL
    rcases loc0 n L hL with h | h
    · have := p.sz; omega
    · have := rh.inn n L h; have := p.sz; omega
  -- blocks have old names
  have locG : ∀ n b L, updG G o n = some b → rhoN ρ c vs tg n = some L → ρ n = some L ∧ (n ≠ 0 → G n = some b) ∧ (b.own = true → G n = some b) := by
    intro n b L hn hL
    have hold : ∀ b', G n = some b' → ρ n = some L := fun b' h => by
      obtain ⟨M, hM, _⟩ := rh.blk n b' h
      have := le n M hM
      rw [hL] at this; cases this
      exact hM
    cases o with
    | none => exact ⟨hold b hn, fun _ => hn, fun _ => hn⟩
    | some q =>
      have hq := p.blk
      obtain ⟨q0, q1⟩ := q
      obtain ⟨rfl, hq2, _⟩ := hq
      by_cases h0 : n = 0
      · subst h0
        have e0 : upF G 0 (some q1) 0 = some b := hn
        rw [upF_same] at e0; cases e0
        have := le _ _ J.g0
        rw [hL] at this; cases this
        exact ⟨J.g0, fun h => absurd rfl h, fun h => by rw [hq2] at h; cases h⟩
      · have e0 : upF G 0 (some q1) n = some b := hn
        rw [upF_other _ _ _ h0] at e0
        exact ⟨hold b e0, fun _ => e0, fun _ => e0⟩
  have own0 : ∀ b, updG G o 0 = some b → b.own = false := by
    intro b hb
    cases o with
    | none => exact J.ro b hb
    | some q =>
      have hq := p.blk
      obtain ⟨q0, q1⟩ := q
      obtain ⟨rfl, hq2, _⟩ := hq
      have e0 : upF G 0 (some q1) 0 = some b := hb
      rw [upF_same] at e0; cases e0
      exact hq2
  have rh' : RH B (rhoN ρ c vs tg) (updG G o) w' := by
    refine ⟨fun n b hn => ?_, fun n k a b L M hn hk hL hM hnk ho q ha hb hblk => ?_, inn⟩
    · by_cases h0 : n = 0
      · subst h0
        cases o with
        | none =>
          obtain ⟨L, hL, hr⟩ := rh.blk 0 b hn
          rw [J.g0] at hL; cases hL
          have hsame : w'.heap[gb]? = w.heap[gb]? := p.blk
          exact ⟨_, le _ _ J.g0, (hr.mono le).same hsame⟩
        | some q =>
          have hq := p.blk
          obtain ⟨q0, q1⟩ := q
          obtain ⟨rfl, _, hq3⟩ := hq
          have e0 : upF G 0 (some q1) 0 = some b := hn
          rw [upF_same] at e0; cases e0
          rw [J.bb]
          exact ⟨_, le _ _ J.g0, hq3⟩
      · have hG : G n = some b := by
          cases o with
          | none => exact hn
          | some q =>
            have hq := p.blk
            obtain ⟨q0, q1⟩ := q
            obtain ⟨rfl, _, _⟩ := hq
            have e0 : upF G 0 (some q1) n = some b := hn
            rwa [upF_other _ _ _ h0] at e0
        obtain ⟨L, hL, hr⟩ := rh.blk n b hG
        exact ⟨L, le _ _ hL, (hr.mono le).same (p.fr _ (rh.inn n L hL) (J.far n b L h0 hG hL))⟩
    · obtain ⟨n1, n2, n3⟩ := locG n a L hn hL
      obtain ⟨k1, k2, _⟩ := locG k b M hk hM
      have hGn := n3 ho
      by_cases hk0 : k = 0
      · subst hk0
        rw [J.g0] at k1; cases k1
        have hn0 : n ≠ 0 := hnk
        exact J.far n a L hn0 hGn n1 hblk
      · exact rh.dis n k a b L M hGn (k2 hk0) n1 k1 hnk ho q ha hb hblk
  refine ⟨u, rhoN ρ c vs tg, p.he, le, fun n hn => rhoN_out hn, p.rv, rh', by rw [J.bb]; exact p.bel, ?_⟩
  refine ⟨J.lt, Nat.le_trans J.sz p.sz, fun k hk hne => (p.fr k (Nat.lt_of_lt_of_le hk J.sz) hne).trans (J.old k hk hne), fun n b L hn ho hL => ?_, fun n b L h0 hn hL => ?_, le _ _ J.g0, own0, J.bb, fun i L cc hL ht => ?_, p.ks⟩
  · obtain ⟨k1, _, k3⟩ := locG n b L hn hL
    exact J.own n b L (k3 ho) ho k1
  · obtain ⟨k1, k2, _⟩ := locG n b L hn hL
    exact J.far n b L h0 (k2 h0) k1
  · have tg' : ∀ k, Qt w0 ρ G w k → Qt w0 (rhoN ρ c vs tg) (updG G o) w' k := fun k hk => ⟨hk.1, Nat.lt_of_lt_of_le hk.2.1 p.sz, fun n b L hn ho hL => by
      obtain ⟨k1, _, k3⟩ := locG n b L hn hL
      exact hk.2.2 n b L (k3 ho) ho k1⟩
    by_cases hi : c ≤ i ∧ i < c + vs.length
    · obtain ⟨j0, rfl⟩ : ∃ j0, i = c + j0 := ⟨i - c, by omega⟩
      have hj0 : j0 < vs.length := by omega
      rw [rhoN_in hj0] at hL
      cases hL
      obtain ⟨cs, ex, hq, hex, hcell⟩ := p.tr j0 hj0 cc ht
      refine ⟨cs, ex, hq, hex.mono (fun k hk => ⟨Nat.le_trans J.sz hk.1, hk.2, fun n b L hn ho hL => ?_⟩) (fun _ _ => rfl), fun j hj => ?_⟩
      · obtain ⟨h1, h2, h3⟩ := hcell j hj
        refine ⟨_, by rw [Nat.add_assoc]; exact rhoN_in h1, h3, ?_⟩
        rw [← h2, List.getElem?_eq_getElem h1]
      · obtain ⟨k1, _, k3⟩ := locG n b L hn hL
        have h5 := rh.inn n L k1
        have h6 := hk.1
        intro he2
        omega
    · rw [rhoN_out (by omega)] at hL
      obtain ⟨cs', ex', k1, k2, k3⟩ := J.tr i L cc hL ht
      refine ⟨cs', ex', k1, k2.mono tg' (fun k hk => p.fr k hk.2.1 ?_), fun j hj => ?_⟩
      · intro he2
        have := hk.1
        have := J.lt
        omega
      · obtain ⟨M, l1, l2, l3⟩ := k3 j hj
        exact ⟨M, le _ _ l1, l2, l3⟩
end Go.Ab
namespace T1
open Go Go.Ab Go.Proofs
open Go.RowKit (Below)
/-! The coder's own block, and its next number. -/
/-- the numbers that are left to be read -/
def UL (wb : World) (gb : Nat) (sl : Value) (ns : List Nat) : Prop := ((∃ a c, sl = .slice a 0 c) ∧ ns = []) ∨ ∃ b off c, sl = .slice (some ⟨b, off, none⟩) ns.length c ∧ ns.length ≤ c ∧ b < wb.heap.size ∧ b ≠ gb ∧ ∀ (i x : Nat), ns[i]? = some x → x ≤ 255 ∧ wb.cell? ⟨b, off + i, none⟩ = some (.int .u8 (x : Int))
def CS (wb : World) (gb : Nat) (y : Value) (ns : List Nat) (w : World) : Prop := ∃ sl, w.cell? ⟨gb, 0, none⟩ = some sl ∧ w.cell? ⟨gb, 1, none⟩ = some y ∧ w.frozen? ⟨gb, 0, none⟩ = false ∧ UL wb gb sl ns
theorem UL.one {wb : World} {gb : Nat} {sl : Value} {ns : List Nat} (h : UL wb gb sl ns) : sl.oneCell' = true := by
  rcases h with ⟨⟨a, c, rfl⟩, _⟩ | ⟨b, off, c, rfl, _⟩ <;> rfl
theorem UL.rebase {w0 w1 : World} {gb : Nat} {sl : Value} {ns : List Nat} (h : UL w0 gb sl ns) (hs : w0.heap.size ≤ w1.heap.size) (hw : ∀ k, k < w0.heap.size → k ≠ gb → w1.heap[k]? = w0.heap[k]?) : UL w1 gb sl ns := by
  rcases h with h | ⟨b, off, c, h1, h2, h3, h4, h5⟩
  · exact .inl h
  · refine .inr ⟨b, off, c, h1, h2, by omega, h4, fun i x hi => ?_⟩
    obtain ⟨h6, h7⟩ := h5 i x hi
    exact ⟨h6, by rw [World.cell?_of_block (w := w0) (hw b h3 h4)]; exact h7⟩
theorem CS.rebase {w0 w1 w : World} {gb : Nat} {y : Value} {ns : List Nat} (h : CS w0 gb y ns w) (hs : w0.heap.size ≤ w1.heap.size) (hw : ∀ k, k < w0.heap.size → k ≠ gb → w1.heap[k]? = w0.heap[k]?) : CS w1 gb y ns w := by
  obtain ⟨sl, h1, h2, h3, h4⟩ := h
  exact ⟨sl, h1, h2, h3, h4.rebase hs hw⟩
theorem CS.same {w0 w w' : World} {gb : Nat} {y : Value} {ns : List Nat} (h : CS w0 gb y ns w) (hw : w'.heap[gb]? = w.heap[gb]?) : CS w0 gb y ns w' := by
  obtain ⟨sl, h1, h2, h3, h4⟩ := h
  exact ⟨sl, by rw [World.cell?_of_block (w := w) hw]; exact h1, by rw [World.cell?_of_block (w := w) hw]; exact h2, by rw [World.frozen?_of_block (w := w) hw]; exact h3, h4⟩
set_option maxHeartbeats 2000000 in
theorem next_none (gb : Nat) (a : Option Addr) (c : Nat) (n : Int) (w : World) (h0 : w.cell? ⟨gb, 0, none⟩ = some (.slice a 0 c)) :
    Calls Tryz.prog 117 #[.pointer (some ⟨gb, 0, none⟩), .int .i64 n] w fun e w' => e = .returned (.int .i64 0) ∧ w' = w := by
  go_enter Tryz.func117, Tryz.ntmps117
  go_wp2
  go_ret
  exact ⟨rfl, rfl⟩
set_option maxHeartbeats 4000000 in
theorem next_some (gb b off l c : Nat) (x n : Int) (w : World) (h0 : w.cell? ⟨gb, 0, none⟩ = some (.slice (some ⟨b, off, none⟩) (l + 1) c)) (hl : l + 1 ≤ c) (hf : w.frozen? ⟨gb, 0, none⟩ = false) (hx : w.cell? ⟨b, off, none⟩ = some (.int .u8 x)) (hx0 : 0 ≤ x) (hx1 : x ≤ 255) (hn : 1 ≤ n) :
    Calls Tryz.prog 117 #[.pointer (some ⟨gb, 0, none⟩), .int .i64 n] w fun e w' => e = .returned (.int .i64 (x % n)) ∧ ∃ sl, TakeSl b off l c sl ∧ w' = w.setCell ⟨gb, 0, none⟩ sl := by
  have hm : x.tmod n = x % n := by rw [Int.tmod_eq_emod_of_nonneg hx0]
  have hm0 : 0 ≤ x % n := Int.emod_nonneg _ (by omega)
  have hm1 : x % n ≤ x := by
    by_cases h : x < n
    · rw [Int.emod_eq_of_lt hx0 h]; exact Int.le_refl _
    · have := Int.emod_lt_of_pos x (show 0 < n by omega); omega
  go_enter Tryz.func117, Tryz.ntmps117
  go_wp2
  all_goals go_ret
  all_goals (refine ⟨rfl, _, ?_, rfl⟩)
  all_goals first
    | exact .inl rfl
    | exact .inr ⟨by omega, _, by congr 1; omega⟩
theorem next_cs {wb w : World} {gb : Nat} {y : Value} {ns : List Nat} {n : Int} (hn : 1 ≤ n) (hw : ∀ k, k < wb.heap.size → k ≠ gb → w.heap[k]? = wb.heap[k]?) (h : CS wb gb y ns w) :
    Calls Tryz.prog 117 #[.pointer (some ⟨gb, 0, none⟩), .int .i64 n] w fun e w' => e = .returned (.int .i64 ((ns.headD 0 : Nat) % n)) ∧ CS wb gb y ns.tail w' ∧ w'.heap.size = w.heap.size ∧ (∀ k, k ≠ gb → w'.heap[k]? = w.heap[k]?) ∧ Below gb w w' := by
  obtain ⟨sl, h1, h2, h3, h4⟩ := h
  rcases h4 with ⟨⟨a, c, rfl⟩, rfl⟩ | ⟨b, off, c, rfl, h5, h6, h7, h8⟩
  · refine (next_none gb a c n w h1).mono fun e w' ⟨he, hw'⟩ => ?_
    subst hw'
    exact ⟨by rw [he]; simp, ⟨_, h1, h2, h3, .inl ⟨⟨a, c, rfl⟩, rfl⟩⟩, rfl, fun _ _ => rfl, Below.refl _ _⟩
  · cases ns with
    | nil =>
      refine (next_none gb _ c n w h1).mono fun e w' ⟨he, hw'⟩ => ?_
      subst hw'
      exact ⟨by rw [he]; simp, ⟨_, h1, h2, h3, .inl ⟨⟨_, c, rfl⟩, rfl⟩⟩, rfl, fun _ _ => rfl, Below.refl _ _⟩
    | cons x ns =>
      obtain ⟨hx, hx2⟩ := h8 0 x rfl
      have hx3 : w.cell? ⟨b, off, none⟩ = some (.int .u8 x) := by rw [World.cell?_of_block (w := wb) (hw b h6 h7)]; exact hx2
      refine (next_some gb b off ns.length c x n w h1 h5 h3 hx3 (by omega) (by omega) hn).mono fun e w' ⟨he, sl, hsl, hw'⟩ => ?_
      subst hw'
      refine ⟨he, ⟨sl, World.cell?_setCell_same _ _ _ h1, ?_, by rw [World.frozen?_setCell]; exact h3, ?_⟩, World.size_setCell _ _ _, fun k hk => Below.heap_setCell _ _ _ _ hk, (Below.refl gb w).setCell (Nat.le_refl _) _⟩
      · rw [World.cell?_setCell_other _ _ _ _ (by simp)]; exact h2
      · rcases hsl with rfl | ⟨h0, a, rfl⟩
        · refine .inr ⟨b, off + 1, c - 1, rfl, by simp at h5; simp; omega, h6, h7, fun i z hz => ?_⟩
          obtain ⟨hy, hy2⟩ := h8 (i + 1) z (by simpa using hz)
          exact ⟨hy, by rw [show off + 1 + i = off + (i + 1) by omega]; exact hy2⟩
        · exact .inl ⟨⟨a, 0, rfl⟩, List.eq_nil_of_length_eq_zero h0⟩
end T1
