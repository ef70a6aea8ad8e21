/- A part of an evaluator of the program's operations over values that are known whole or in part, and of the proof that what it answers holds of the program's run. No condition. -/
import Derived.Test.YtofkgopegmoidaaGreatDoorS36
namespace T1
open Go Go.Ab Go.Proofs Go.RowKit
/-! rewrite.is: is the operation of an expression among some? -/
theorem cell_lt {w : World} {a : Addr} {u : Value} (h : w.cell? a = some u) : a.block < w.heap.size := by
  rcases Nat.lt_or_ge a.block w.heap.size with h1 | h1
  · exact h1
  · unfold World.cell? at h
    rw [Array.getElem?_eq_none h1] at h
    cases h
theorem cell_alloc {w : World} {a : Addr} {u : Value} (h : w.cell? a = some u) (o : Obj) : (w.alloc o).cell? a = some u := by
  rw [((Below.refl w.heap.size w).alloc (Nat.le_refl _) o).cell (cell_lt h)]; exact h
set_option maxHeartbeats 1000000 in
theorem is_int (z : Int) (v1 v2 v3 v4 v5 v6 : Value) (b off n c : Nat) (zs : List Int) (w : World) (hz : n ≤ zs.length) (hbig : n ≤ 9223372036854775807) (hc : ∀ j, j < zs.length → w.cell? ⟨b, off + j, none⟩ = some (.int .i64 (zs.getD j 0))) :
    Calls Tryz.prog 149 #[.agg #[.int .i64 z, v1, v2, v3, v4, v5, v6], .slice (some ⟨b, off, none⟩) n c] w fun e w' => e = .returned (.bool ((zs.take n).contains z)) ∧ Below w.heap.size w w' := by
  go_enter Tryz.func149, Tryz.ntmps149
  go_wp2_with fail
  refine (contains_int b off n c zs z _ hz hbig fun j hj => cell_alloc (hc j hj) _).mono ?_
  rintro e w' ⟨rfl, rfl⟩
  go_wp2
  go_ret
  exact ⟨by simp, (Below.refl w.heap.size w).alloc (Nat.le_refl _) _⟩
set_option maxHeartbeats 1000000 in
theorem is_int_empty (z : Int) (v1 v2 v3 v4 v5 v6 : Value) (a : Option Addr) (c : Nat) (w : World) :
    Calls Tryz.prog 149 #[.agg #[.int .i64 z, v1, v2, v3, v4, v5, v6], .slice a 0 c] w fun e w' => e = .returned (.bool false) ∧ Below w.heap.size w w' := by
  go_enter Tryz.func149, Tryz.ntmps149
  go_wp2_with fail
  refine (contains_int_empty a c z _).mono ?_
  rintro e w' ⟨rfl, rfl⟩
  go_wp2
  go_ret
  exact ⟨rfl, (Below.refl w.heap.size w).alloc (Nat.le_refl _) _⟩
noncomputable section
def opOf (v : AV) : Option AV := oE (asAgg v) none (fun l => bE (Nat.beq (len l) (nat_lit 7)) (lE l none (fun x _ => some x)) none)
def isC (h : Tr AB) (x s : AV) : Option AV := oE (opOf x) none (indexC (fun i => some (.bool (!ilt i (.ofNat .zero)))) h s)
def isK (h : Tr AB) (l : List AV) : Option AV := two (isC h) l
end
theorem is_con {B : Nat} {ρ : Rho} {G : Hp} {w : World} {h : Tr AB} {args : List AV} {xs : List Value} {v : AV} (e : isK h args = some v) (hx : RVs ρ args xs) (rh : RH B ρ G w) (hp : ∀ n o, h.get n = some o → G n = some o) :
    Calls Tryz.prog 149 xs.toArray w fun e w' => ∃ u, e = .returned u ∧ RV ρ v u ∧ Below w.heap.size w w' := by
  obtain ⟨a, b, rfl, e1⟩ := two_eq e
  obtain ⟨x, hx0, e2⟩ := oE_none_eq e1
  obtain ⟨l, hl, e3⟩ := oE_none_eq hx0
  obtain rfl := asAgg_eq hl
  obtain ⟨hlen, e4⟩ := bE_none_eq e3
  have hlen := beq_true hlen
  rw [len_eq] at hlen
  cases hx with
  | cons ha hx => cases hx with
    | cons hb hx =>
      cases hx
      cases ha with
      | agg l X hX =>
        obtain ⟨X⟩ := X
        match l, hlen, X, hX with
        | [x0, x1, x2, x3, x4, x5, x6], _, [y0, y1, y2, y3, y4, y5, y6], .cons hx0 _ =>
          cases (show some x0 = some x from e4)
          obtain ⟨zs, z, rfl, h1, h2⟩ := indexC_ok rh hp hb hx0 e2
          cases h1
          rcases h2 with ⟨b, off, c, rfl, h3, h4⟩ | ⟨a, c, rfl, rfl⟩
          · refine (is_int z y1 y2 y3 y4 y5 y6 b off zs.length c zs w (Nat.le_refl _) h3 h4).mono fun e w' he => ?_
            obtain ⟨rfl, hw⟩ := he
            rw [List.take_length]
            refine ⟨_, rfl, ?_, hw⟩
            have : (!ilt (Lib.idxOf zs z) (.ofNat .zero)) = zs.contains z := by
              rw [ilt_eq, Bool.eq_iff_iff, ← Lib.idxOf_nonneg_iff, Bool.not_eq_true', decide_eq_false_iff_not]
              exact Int.not_lt
            rw [this]
            exact .bool _
          · refine (is_int_empty z y1 y2 y3 y4 y5 y6 a c w).mono fun e w' he => ?_
            obtain ⟨rfl, hw⟩ := he
            exact ⟨_, rfl, .bool _, hw⟩
end T1
