/- A part of an evaluator of the program's operations over values that are known whole or in part, and of the proof that what it answers holds of the program's run. No condition. -/
import Derived.Test.YtofkgopegmoidaaGreatDoorQS57
import Derived.WalkKit
import Derived.WalkSpells
import Derived.Lib.Slices
namespace T1
open Go Go.Ab Go.Proofs Go.RowKit

/-! slices.Index and slices.Contains at []int: walked once (the walk is the worked one of the kit, turned to this program's numbers). -/
set_option maxHeartbeats 1000000 in
theorem index_int (b off n c : Nat) (zs : List Int) (x : Int) (w : World) (hz : n ≤ zs.length) (hbig : n ≤ 9223372036854775807) (hc : ∀ j, j < zs.length → w.cell? ⟨b, off + j, none⟩ = some (.int .i64 (zs.getD j 0))) :
    Calls Tryz.prog 247 #[.slice (some ⟨b, off, none⟩) n c, .int .i64 x] w fun e w' => e = .returned (.int .i64 (Lib.idxOf (zs.take n) x)) ∧ w' = w := by
  go_enter Tryz.func247, Tryz.ntmps247
  go_wp2
  go_loop [5, 8] (fun _ i => ∃ k : Nat, k ≤ n ∧ i = .int .i64 k ∧ ∀ j, j < k → zs.getD j 0 ≠ x) (fun _ i => match i with | .int _ m => n - m.toNat | _ => 0)
  case atStart => exact ⟨0, Nat.zero_le _, rfl, fun j hj => absurd hj (Nat.not_lt_zero _)⟩
  case round =>
    obtain ⟨k, hk, rfl, hne⟩ := hrel
    have hcell : k < n → w.cell? ⟨b, off + k, none⟩ = some (.int .i64 (zs.getD k 0)) := fun _ => hc k (by omega)
    go_wp2
    · have hlt : k < n := by assumption
      have heq : (x == zs[k]?.getD 0) = true := by assumption
      go_ret
      refine ⟨?_, rfl⟩
      rw [Lib.idxOf_hit zs n k x hlt hz (by simp only [List.getD]; exact (beq_iff_eq.1 heq).symm) hne]
      rfl
    · have hlt : k < n := by assumption
      have hneq : (x == zs[k]?.getD 0) = false := by assumption
      refine ⟨⟨k + 1, by omega, rfl, fun j hj => ?_⟩, ?_⟩
      · by_cases e : j = k
        · subst e
          intro he
          rw [List.getD_eq_getElem?_getD] at he
          rw [he] at hneq
          simp at hneq
        · exact hne j (by omega)
      · show n - ((k : Int) + 1).toNat < n - ((k : Int)).toNat
        omega
    · have hge : ¬ k < n := by assumption
      have : k = n := by omega
      subst this
      go_ret
      refine ⟨?_, rfl⟩
      rw [Lib.idxOf_miss zs k x hne]
      rfl

set_option maxHeartbeats 1000000 in
theorem index_int_empty (a : Option Addr) (c : Nat) (x : Int) (w : World) :
    Calls Tryz.prog 247 #[.slice a 0 c, .int .i64 x] w fun e w' => e = .returned (.int .i64 (-1)) ∧ w' = w := by
  go_enter Tryz.func247, Tryz.ntmps247
  go_wp2
  go_loop [5, 8] (fun _ i => i = .int .i64 0) (fun _ _ => 0)
  case atStart => rfl
  case round =>
    subst hrel
    go_wp2
    go_ret
    exact ⟨rfl, rfl⟩
theorem contains_int (b off n c : Nat) (zs : List Int) (x : Int) (w : World) (hz : n ≤ zs.length) (hbig : n ≤ 9223372036854775807) (hc : ∀ j, j < zs.length → w.cell? ⟨b, off + j, none⟩ = some (.int .i64 (zs.getD j 0))) :
    Calls Tryz.prog 213 #[.slice (some ⟨b, off, none⟩) n c, .int .i64 x] w fun e w' => e = .returned (.bool ((zs.take n).contains x)) ∧ w' = w := by
  have hb : (zs.take n).contains x = decide (0 ≤ Lib.idxOf (zs.take n) x) := by
    rw [Bool.eq_iff_iff, decide_eq_true_eq, Lib.idxOf_nonneg_iff]
  rw [hb]
  go_enter Tryz.func213, Tryz.ntmps213
  go_wp2_with fail
  refine (index_int b off n c zs x _ hz hbig hc).mono ?_
  rintro e w' ⟨rfl, rfl⟩
  go_wp2
  go_ret
  exact ⟨rfl, rfl⟩
theorem contains_int_empty (a : Option Addr) (c : Nat) (x : Int) (w : World) :
    Calls Tryz.prog 213 #[.slice a 0 c, .int .i64 x] w fun e w' => e = .returned (.bool false) ∧ w' = w := by
  go_enter Tryz.func213, Tryz.ntmps213
  go_wp2_with fail
  refine (index_int_empty a c x _).mono ?_
  rintro e w' ⟨rfl, rfl⟩
  go_wp2
  go_ret
  exact ⟨rfl, rfl⟩
end T1
namespace Go.Ab
open Go.RowKit (Below)
noncomputable section
/-! Contracts for slices.Index and slices.Contains at []int. -/
/-- the elements of a slice of integers, their cells one by one -/
def rowI (h : Tr AB) : AV → Option (List AV)
  | .nils => some []
  | .sl n o ln _ => oE (cellsAt h n) none (fun c => sub c o ln)
  | _ => none
/-- the place of x among cells that all hold integers of one kind -/
def idxA (x : Int) (l : List AV) : Nat → Option Int := List.rec (motive := fun _ => Nat → Option Int) (fun _ => some (.negSucc .zero))
  (fun v _ ih i => oE (asInt v) none (fun p => pE p (fun k z => bE (keq k .i64) (oE (ih (.succ i)) none (fun r => some (bE (ieq z x) (.ofNat i) r))) none))) l
def bigN (n : Nat) : Bool := Nat.ble n (nat_lit 1048576)
def indexC (f : Int → Option AV) (h : Tr AB) (s x : AV) : Option AV := oE (asInt x) none (fun p => pE p (fun k z => bE (keq k .i64) (oE (rowI h s) none (fun cs => bE (bigN (len cs)) (oE (idxA z cs .zero) none f) none)) none))
def indexK (h : Tr AB) (_ : Nat) (l : List AV) : ConR := res0 (two (indexC (fun i => mkInt .i64 i) h) l)
def containsK (h : Tr AB) (_ : Nat) (l : List AV) : ConR := res0 (two (indexC (fun i => some (.bool (!ilt i (.ofNat .zero)))) h) l)
end
theorem idxA_ok {ρ : Rho} {x : Int} : ∀ {l : List AV} {us : List Value} (i : Nat) {r : Int}, RVs ρ l us → idxA x l i = some r → ∃ zs : List Int, us = zs.map (.int .i64) ∧ r = Lib.idxFrom zs x i
  | [], _, i, r, .nil, e => by cases e; exact ⟨[], rfl, rfl⟩
  | v :: l, _, i, r, .cons (u := u) (x := us) h1 h2, e => by
    obtain ⟨⟨k, z⟩, hv, e1⟩ := oE_none_eq (show oE (asInt v) none (fun p => pE p (fun k z => bE (keq k .i64) (oE (idxA x l (.succ i)) none (fun r => some (bE (ieq z x) (.ofNat i) r))) none)) = some r from e)
    rw [pE_mk] at e1
    obtain rfl := asInt_eq hv
    obtain ⟨hk, e2⟩ := bE_none_eq e1
    obtain rfl := keq_eq hk
    obtain ⟨q, hq, e3⟩ := oE_none_eq e2
    cases h1
    obtain ⟨zs, rfl, rfl⟩ := idxA_ok (.succ i) h2 hq
    refine ⟨z :: zs, rfl, ?_⟩
    have e4 : bE (ieq z x) (.ofNat i) (Lib.idxFrom zs x (i + 1)) = r := Option.some.inj e3
    rw [ieq_eq] at e4
    subst e4
    by_cases h : z = x
    · subst h; simp [Lib.idxFrom, bE_true]
    · have : (z == x) = false := by simp [h]
      simp [Lib.idxFrom, h, this, bE_false]
theorem rowI_ok {B : Nat} {ρ : Rho} {G : Hp} {w : World} {h : Tr AB} {s : AV} {S : Value} {cs : List AV} (rh : RH B ρ G w) (hp : ∀ n o, h.get n = some o → G n = some o) (hs : RV ρ s S) (e : rowI h s = some cs) :
    ∃ us, RVs ρ cs us ∧ ((∃ b off c, S = .slice (some ⟨b, off, none⟩) cs.length c ∧ ∀ j u, us[j]? = some u → w.cell? ⟨b, off + j, none⟩ = some u) ∨ (∃ a c, S = .slice a 0 c ∧ cs = [])) := by
  unfold rowI at e
  split at e
  · cases e; cases hs
    exact ⟨[], .nil, .inr ⟨_, _, rfl, rfl⟩⟩
  · next n o ln cap =>
    obtain ⟨c, hc, e1⟩ := oE_none_eq e
    obtain ⟨k, hk⟩ := cellsAt_eq hc
    have hlen := sub_length e1
    have main : ∀ L, ρ n = some L → ∃ us, RVs ρ cs us ∧ ∀ j u, us[j]? = some u → w.cell? ⟨L.blk, L.base + o + j, none⟩ = some u := by
      intro L hL
      obtain ⟨us, h1, h2⟩ := list_of_cells (fun i v hv => read_cells rh (hp _ _ hk) hL i hv) o ln e1
      refine ⟨us, h1, fun j u hu => ?_⟩
      have := h2 j u hu
      rwa [show L.adr (o + j) = ⟨L.blk, L.base + o + j, none⟩ by unfold Loc.adr; rw [Nat.add_assoc]] at this
    cases hs with
    | slf _ _ _ c L hL =>
      obtain ⟨us, h1, h2⟩ := main L hL
      exact ⟨us, h1, .inl ⟨_, _, _, by rw [hlen]; rfl, h2⟩⟩
    | sle _ _ _ z cap L hL h3 h4 =>
      obtain ⟨us, h1, h2⟩ := main L hL
      exact ⟨us, h1, .inl ⟨_, _, _, by rw [hlen]; rfl, h2⟩⟩
    | slz _ _ z L a hL h3 h4 =>
      obtain rfl : cs = [] := List.eq_nil_of_length_eq_zero hlen
      exact ⟨[], .nil, .inr ⟨_, _, rfl, rfl⟩⟩
    | slx _ _ a h3 =>
      obtain rfl : cs = [] := List.eq_nil_of_length_eq_zero hlen
      exact ⟨[], .nil, .inr ⟨_, _, rfl, rfl⟩⟩
  · cases e
theorem indexC_ok {B : Nat} {ρ : Rho} {G : Hp} {w : World} {f : Int → Option AV} {h : Tr AB} {s x : AV} {S X : Value} {v : AV} (rh : RH B ρ G w) (hp : ∀ n o, h.get n = some o → G n = some o) (hs : RV ρ s S) (hx : RV ρ x X) (e : indexC f h s x = some v) :
    ∃ (zs : List Int) (z : Int), X = .int .i64 z ∧ f (Lib.idxOf zs z) = some v ∧
      ((∃ b off c, S = .slice (some ⟨b, off, none⟩) zs.length c ∧ zs.length ≤ 9223372036854775807 ∧ ∀ j, j < zs.length → w.cell? ⟨b, off + j, none⟩ = some (.int .i64 (zs.getD j 0))) ∨ (∃ a c, S = .slice a 0 c ∧ zs = [])) := by
  obtain ⟨⟨k, z⟩, hv, e1⟩ := oE_none_eq e
  rw [pE_mk] at e1
  obtain rfl := asInt_eq hv
  obtain ⟨hk, e2⟩ := bE_none_eq e1
  obtain rfl := keq_eq hk
  obtain ⟨cs, hcs, e3⟩ := oE_none_eq e2
  obtain ⟨hb, e4⟩ := bE_none_eq e3
  obtain ⟨r, hr, e5⟩ := oE_none_eq e4
  cases hx
  obtain ⟨us, h1, h2⟩ := rowI_ok rh hp hs hcs
  obtain ⟨zs, rfl, rfl⟩ := idxA_ok .zero h1 hr
  have hl := h1.length
  rw [List.length_map] at hl
  have hble := ble_true hb
  rw [len_eq] at hble
  refine ⟨zs, z, rfl, e5, ?_⟩
  rcases h2 with ⟨b, off, c, rfl, h3⟩ | ⟨a, c, rfl, rfl⟩
  · refine .inl ⟨b, off, c, by rw [hl], by have : cs.length ≤ 1048576 := hble; omega, fun j hj => h3 j _ ?_⟩
    rw [List.getElem?_map, List.getElem?_eq_getElem hj]
    simp [List.getD, List.getElem?_eq_getElem hj]
  · exact .inr ⟨a, c, rfl, List.eq_nil_of_length_eq_zero (by simpa using hl.symm)⟩
end Go.Ab
namespace T1
open Go Go.Ab Go.Proofs Go.RowKit
theorem index_con {B : Nat} {ρ : Rho} {G : Hp} {w : World} {h : Tr AB} {args : List AV} {xs : List Value} {v : AV} (e : two (indexC (fun i => mkInt .i64 i) h) args = some v) (hx : RVs ρ args xs) (rh : RH B ρ G w) (hp : ∀ n o, h.get n = some o → G n = some o) :
    Calls Tryz.prog 247 xs.toArray w fun e w' => ∃ u, e = .returned u ∧ RV ρ v u ∧ Below w.heap.size w w' := by
  obtain ⟨a, b, rfl, e1⟩ := two_eq e
  cases hx with
  | cons ha hx => cases hx with
    | cons hb hx =>
      cases hx
      obtain ⟨zs, z, rfl, h1, h2⟩ := indexC_ok rh hp ha hb e1
      rw [mkInt_eq] at h1
      cases h1
      rcases h2 with ⟨b, off, c, rfl, h3, h4⟩ | ⟨a, c, rfl, rfl⟩
      · refine (index_int b off zs.length c zs z w (Nat.le_refl _) h3 h4).mono fun e w' he => ?_
        obtain ⟨rfl, rfl⟩ := he
        rw [List.take_length]
        exact ⟨_, rfl, .int _ _, Below.refl _ _⟩
      · refine (index_int_empty a c z w).mono fun e w' he => ?_
        obtain ⟨rfl, rfl⟩ := he
        exact ⟨_, rfl, .int _ _, Below.refl _ _⟩
theorem contains_con {B : Nat} {ρ : Rho} {G : Hp} {w : World} {h : Tr AB} {args : List AV} {xs : List Value} {v : AV} (e : two (indexC (fun i => some (.bool (!ilt i (.ofNat .zero)))) h) args = some v) (hx : RVs ρ args xs) (rh : RH B ρ G w) (hp : ∀ n o, h.get n = some o → G n = some o) :
    Calls Tryz.prog 213 xs.toArray w fun e w' => ∃ u, e = .returned u ∧ RV ρ v u ∧ Below w.heap.size w w' := by
  obtain ⟨a, b, rfl, e1⟩ := two_eq e
  cases hx with
  | cons ha hx => cases hx with
    | cons hb hx =>
      cases hx
      obtain ⟨zs, z, rfl, h1, h2⟩ := indexC_ok rh hp ha hb e1
      cases h1
      rcases h2 with ⟨b, off, c, rfl, h3, h4⟩ | ⟨a, c, rfl, rfl⟩
      · refine (contains_int b off zs.length c zs z w (Nat.le_refl _) h3 h4).mono fun e w' he => ?_
        obtain ⟨rfl, rfl⟩ := he
        rw [List.take_length]
        refine ⟨_, rfl, ?_, Below.refl _ _⟩
        have : (!ilt (Lib.idxOf zs z) (.ofNat .zero)) = zs.contains z := by
          rw [ilt_eq, Bool.eq_iff_iff, ← Lib.idxOf_nonneg_iff, Bool.not_eq_true', decide_eq_false_iff_not]
          exact Int.not_lt
        rw [this]
        exact .bool _
      · refine (contains_int_empty a c z w).mono fun e w' he => ?_
        obtain ⟨rfl, rfl⟩ := he
        exact ⟨_, rfl, .bool _, Below.refl _ _⟩
end T1
namespace T1
open Go Go.Ab Go.Proofs Go.RowKit
/-! rewrite.is: is the operation of an expression among some? -/
theorem cell_lt {w : World} {a : Addr} {u : Value} (h : w.cell? a = some u) : a.block < w.heap.size := by
  rcases Nat.lt_or_ge a.block w.heap.size with h1 | h1
  · exact h1
  · unfold World.cell? at h
    rw [Array.getElem?_eq_none h1] at h
    cases h
theorem cell_alloc {w : World} {a : Addr} {u : Value} (h : w.cell? a = some u) (o : Obj) : (w.alloc o).cell? a = some u := by
  rw [((Below.refl w.heap.size w).alloc (Nat.le_refl _) o).cell (cell_lt h)]; exact h
set_option maxHeartbeats 1000000 in
theorem is_int (z : Int) (v1 v2 v3 v4 v5 v6 : Value) (b off n c : Nat) (zs : List Int) (w : World) (hz : n ≤ zs.length) (hbig : n ≤ 9223372036854775807) (hc : ∀ j, j < zs.length → w.cell? ⟨b, off + j, none⟩ = some (.int .i64 (zs.getD j 0))) :
    Calls Tryz.prog 149 #[.agg #[.int .i64 z, v1, v2, v3, v4, v5, v6], .slice (some ⟨b, off, none⟩) n c] w fun e w' => e = .returned (.bool ((zs.take n).contains z)) ∧ Below w.heap.size w w' := by
  go_enter Tryz.func149, Tryz.ntmps149
  go_wp2_with fail
  refine (contains_int b off n c zs z _ hz hbig fun j hj => cell_alloc (hc j hj) _).mono ?_
  rintro e w' ⟨rfl, rfl⟩
  go_wp2
  go_ret
  exact ⟨by simp, (Below.refl w.heap.size w).alloc (Nat.le_refl _) _⟩
set_option maxHeartbeats 1000000 in
theorem is_int_empty (z : Int) (v1 v2 v3 v4 v5 v6 : Value) (a : Option Addr) (c : Nat) (w : World) :
    Calls Tryz.prog 149 #[.agg #[.int .i64 z, v1, v2, v3, v4, v5, v6], .slice a 0 c] w fun e w' => e = .returned (.bool false) ∧ Below w.heap.size w w' := by
  go_enter Tryz.func149, Tryz.ntmps149
  go_wp2_with fail
  refine (contains_int_empty a c z _).mono ?_
  rintro e w' ⟨rfl, rfl⟩
  go_wp2
  go_ret
  exact ⟨rfl, (Below.refl w.heap.size w).alloc (Nat.le_refl _) _⟩
noncomputable section
def opOf (v : AV) : Option AV := oE (asAgg v) none (fun l => bE (Nat.beq (len l) (nat_lit 7)) (lE l none (fun x _ => some x)) none)
def isC (h : Tr AB) (x s : AV) : Option AV := oE (opOf x) none (indexC (fun i => some (.bool (!ilt i (.ofNat .zero)))) h s)
def isQ (h : Tr AB) (_ : Nat) (l : List AV) : ConR := res0 (two (isC h) l)
end
theorem is_con {B : Nat} {ρ : Rho} {G : Hp} {w : World} {h : Tr AB} {args : List AV} {xs : List Value} {v : AV} (e : two (isC h) args = some v) (hx : RVs ρ args xs) (rh : RH B ρ G w) (hp : ∀ n o, h.get n = some o → G n = some o) :
    Calls Tryz.prog 149 xs.toArray w fun e w' => ∃ u, e = .returned u ∧ RV ρ v u ∧ Below w.heap.size w w' := by
  obtain ⟨a, b, rfl, e1⟩ := two_eq e
  obtain ⟨x, hx0, e2⟩ := oE_none_eq e1
  obtain ⟨l, hl, e3⟩ := oE_none_eq hx0
  obtain rfl := asAgg_eq hl
  obtain ⟨hlen, e4⟩ := bE_none_eq e3
  have hlen := beq_true hlen
  rw [len_eq] at hlen
  cases hx with
  | cons ha hx => cases hx with
    | cons hb hx =>
      cases hx
      cases ha with
      | agg l X hX =>
        obtain ⟨X⟩ := X
        match l, hlen, X, hX with
        | [x0, x1, x2, x3, x4, x5, x6], _, [y0, y1, y2, y3, y4, y5, y6], .cons hx0 _ =>
          cases (show some x0 = some x from e4)
          obtain ⟨zs, z, rfl, h1, h2⟩ := indexC_ok rh hp hb hx0 e2
          cases h1
          rcases h2 with ⟨b, off, c, rfl, h3, h4⟩ | ⟨a, c, rfl, rfl⟩
          · refine (is_int z y1 y2 y3 y4 y5 y6 b off zs.length c zs w (Nat.le_refl _) h3 h4).mono fun e w' he => ?_
            obtain ⟨rfl, hw⟩ := he
            rw [List.take_length]
            refine ⟨_, rfl, ?_, hw⟩
            have : (!ilt (Lib.idxOf zs z) (.ofNat .zero)) = zs.contains z := by
              rw [ilt_eq, Bool.eq_iff_iff, ← Lib.idxOf_nonneg_iff, Bool.not_eq_true', decide_eq_false_iff_not]
              exact Int.not_lt
            rw [this]
            exact .bool _
          · refine (is_int_empty z y1 y2 y3 y4 y5 y6 a c w).mono fun e w' he => ?_
            obtain ⟨rfl, hw⟩ := he
            exact ⟨_, rfl, .bool _, hw⟩
end T1
