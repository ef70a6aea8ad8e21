/- A part of an evaluator of the program's operations over values that are known whole or in part, and of the proof that what it answers holds of the program's run. No condition. -/
import Derived.Test.YtofkgopegmoidaaGreatDoorWV8
import Derived.Test.YtofkgopegmoidaaGreatDoorWV9k
namespace T1
open Go Go.Ab Go.Proofs
open Go.RowKit (Below)
theorem three (w : World) (o1 o2 o3 : Obj) : Below w.heap.size w (((w.alloc o1).alloc o2).alloc o3) ∧ (((w.alloc o1).alloc o2).alloc o3).heap[w.heap.size]? = some o1 ∧ (((w.alloc o1).alloc o2).alloc o3).heap[w.heap.size + 1]? = some o2 ∧ (((w.alloc o1).alloc o2).alloc o3).heap[w.heap.size + 1 + 1]? = some o3 ∧ (((w.alloc o1).alloc o2).alloc o3).heap.size = w.heap.size + 3 := by
  refine ⟨(((Below.refl _ w).alloc (Nat.le_refl _) o1).alloc (by simp) o2).alloc (by simp; omega) o3, ?_, ?_, ?_, by simp⟩
  · show (((w.heap.push o1).push o2).push o3)[w.heap.size]? = _
    rw [Array.getElem?_push, if_neg (by simp; omega), Array.getElem?_push, if_neg (by simp), Array.getElem?_push, if_pos rfl]
  · show (((w.heap.push o1).push o2).push o3)[w.heap.size + 1]? = _
    rw [Array.getElem?_push, if_neg (by simp), Array.getElem?_push, if_pos (by simp)]
  · show (((w.heap.push o1).push o2).push o3)[w.heap.size + 1 + 1]? = _
    rw [Array.getElem?_push, if_pos (by simp)]
set_option maxRecDepth 20000 in
set_option maxHeartbeats 8000000 in
theorem law6 (a : Option Addr) (l c t x y : Nat) (w : World) (hsl : U8r w (.slice a l c)) (hlc : l ≤ c) (ht : t ≤ 255) (hx : x ≤ 255) (hy : y ≤ 255) :
    Calls Tryz.prog 6 #[.slice a l c, .int .u8 (t : Int), .agg #[.int .u8 (x : Int), .int .u8 (y : Int)]] w fun e w' => e = .returned (.bool true) ∧ Below w.heap.size w w' := by
  have hm : ((t : Int)).tmod 8 = ((t % 8 : Nat) : Int) := by rw [Int.tmod_eq_emod_of_nonneg (by omega)]; omega
  go_enter Tryz.func6, Tryz.ntmps6
  go_wp2_with fail
  obtain ⟨k, hk, k1, k8⟩ : ∃ k : Nat, 1 + (t : Int) % 8 = (k : Int) ∧ 1 ≤ k ∧ k ≤ 8 := ⟨1 + t % 8, by omega, by omega, by omega⟩
  rw [hk]
  have hb1 := (Below.refl _ w).alloc (Nat.le_refl _) (Obj.cells #[Value.int IntKind.u8 (x : Int), Value.int IntKind.u8 (y : Int)] 44)
  refine (typed22 a l c _ (hsl.below hb1) hlc k k1 k8).mono ?_
  rintro e w1 ⟨cs, ex, rfl, hte, hex, hbA⟩
  have hb2 := hb1.trans (hbA.mono hb1.size)
  have a0 : ∀ j u, [Value.int IntKind.u8 (x : Int), Value.int IntKind.u8 (y : Int)][j]? = some u → w1.cell? ⟨w.heap.size, j, none⟩ = some u := fun j u hj => by
    rw [hbA.cell (p := ⟨w.heap.size, j, none⟩) (by simp)]
    exact cells_of' (alloc_new _ _) j u hj
  have a00 := a0 0 _ rfl
  have a01 := a0 1 _ rfl
  have hlt1 : w.heap.size < w1.heap.size := by have := hbA.size; simp at this; omega
  cases hex with
  | mk hsl' =>
    rename_i op nm b1 m1 b2 m2 ys sl
    obtain ⟨s0, s1, s2, rfl⟩ : ∃ a l c, sl = .slice a l c := by cases hsl' <;> exact ⟨_, _, _, rfl⟩
    clear a0
    go_wp2_with fail
    obtain ⟨i1, h1, h1a, h1b⟩ : ∃ i : Nat, 1 + (x : Int) = (i : Int) ∧ 1 ≤ i ∧ i ≤ 256 := ⟨1 + x, by omega, by omega, by omega⟩
    obtain ⟨i2, h2, h2a, h2b⟩ : ∃ i : Nat, 1 + (y : Int) = (i : Int) ∧ 1 ≤ i ∧ i ≤ 256 := ⟨1 + y, by omega, by omega, by omega⟩
    rw [h1, h2]
    obtain ⟨g0, g1, g2, g3, g4⟩ := three w1 (Obj.cells #[Value.int IntKind.i64 op, Value.string nm, Value.bool b1, Value.string m1, Value.bool b2, Value.string m2, Value.slice s0 s1 s2] 30) (Obj.cells #[Value.string { data := #[97] }, Value.string { data := #[98] }] 9) (Obj.cells #[Value.int IntKind.i64 (i1 : Int), Value.int IntKind.i64 (i2 : Int)] 3)
    have hexA := IsEx.mk (op := op) (nm := nm) (b1 := b1) (m1 := m1) (b2 := b2) (m2 := m2) hsl'
    have hex3 := isEx_up2 hexA (fun k hk => hk.2) g0
    refine (bind23 ⟨h1a, h1b⟩ ⟨h2a, h2b⟩ hte (by rw [g4]; omega) hex3 ⟨by rw [g4]; omega, by rw [g4]; omega, ⟨_, cells_of' g2 0 _ rfl, rfl⟩, ⟨_, cells_of' g2 1 _ rfl, rfl⟩, cells_of' g3 0 _ rfl, cells_of' g3 1 _ rfl⟩).mono ?_
    rintro e3 w4 ⟨cs', ex', rfl, hte', hex', hbC⟩
    have hb4 := hb2.trans ((g0.trans (hbC.mono g0.size)).mono hb2.size)
    have hb14 := g0.trans (hbC.mono g0.size)
    have q4 := (hbC.block w1.heap.size (by rw [g4]; omega)).trans g1
    have hsz4 : w1.heap.size + 3 ≤ w4.heap.size := by have := hbC.size; rw [g4] at this; exact this
    clear g0 g1 g2 g3 g4 hbC hex3 a00 a01
    cases hex' with
    | mk hslB =>
      rename_i op' nm' b1' m1' b2' m2' ys' sl'
      obtain ⟨t0, t1, t2, rfl⟩ : ∃ a l c, sl' = .slice a l c := by cases hslB <;> exact ⟨_, _, _, rfl⟩
      have hexB := IsEx.mk (op := op') (nm := nm') (b1 := b1') (m1 := m1') (b2 := b2') (m2 := m2') hslB
      have p0 : ∀ j u, [Value.int IntKind.i64 op, Value.string nm, Value.bool b1, Value.string m1, Value.bool b2, Value.string m2, Value.slice s0 s1 s2][j]? = some u → (w4.alloc (Obj.cells #[Value.int IntKind.i64 op', Value.string nm', Value.bool b1', Value.string m1', Value.bool b2', Value.string m2', Value.slice t0 t1 t2] 30)).cell? ⟨w1.heap.size, j, none⟩ = some u := fun j u hj => by
        rw [World.cell?_of_block (w := w4) (Below.heap_alloc _ _ _ (show w1.heap.size < w4.heap.size by omega))]
        exact cells_of' q4 j u hj
      have p00 := p0 0 _ rfl
      have p01 := p0 1 _ rfl
      have p02 := p0 2 _ rfl
      have p03 := p0 3 _ rfl
      have p04 := p0 4 _ rfl
      have p05 := p0 5 _ rfl
      have p06 := p0 6 _ rfl
      have hne : w1.heap.size ≠ w4.heap.size := by omega
      clear p0
      go_wp2_with fail
      have hb5 := (Below.refl _ w4).alloc (Nat.le_refl _) (Obj.cells #[Value.int IntKind.i64 op', Value.string nm', Value.bool b1', Value.string m1', Value.bool b2', Value.string m2', Value.slice t0 t1 t2] 30)
      have hb15 := hb14.trans (hb5.mono hb14.size)
      refine (of24 hte (Nat.le_refl _) (by simp) (isEx_up2 hexA (fun k hk => hk.2) hb15)).mono ?_
      rintro e5 w5 ⟨rfl, hbD⟩
      have hb45 := hb5.trans (hbD.mono hb5.size)
      have q5 := (hbD.block w4.heap.size (by simp)).trans (alloc_new w4 (Obj.cells #[Value.int IntKind.i64 op', Value.string nm', Value.bool b1', Value.string m1', Value.bool b2', Value.string m2', Value.slice t0 t1 t2] 30))
      have r0 := fun j u hj => cells_of' q5 j u hj
      have r00 := r0 0 _ rfl
      have r01 := r0 1 _ rfl
      have r02 := r0 2 _ rfl
      have r03 := r0 3 _ rfl
      have r04 := r0 4 _ rfl
      have r05 := r0 5 _ rfl
      have r06 := r0 6 _ rfl
      clear r0 p00 p01 p02 p03 p04 p05 p06 hb5 hb15 hbD
      go_wp2_with fail
      refine (of24 hte' (Nat.le_refl _) (by have := hb45.size; omega) (isEx_up2 hexB (fun k hk => hk) hb45)).mono ?_
      rintro e6 w6 ⟨rfl, hbE⟩
      have hb46 := hb45.trans (hbE.mono hb45.size)
      clear r00 r01 r02 r03 r04 r05 r06
      go_wp2_with fail
      refine (known44 w6).mono ?_
      rintro e7 w7 ⟨rfl, hbF⟩
      have hb47 := hb46.trans (hbF.mono hb46.size)
      have hfin := hb4.trans (hb47.mono hb4.size)
      go_wp2_with fail
      go_ret
      exact ⟨rfl, hfin⟩
#print axioms law6
end T1
