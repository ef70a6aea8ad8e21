/- A part of an evaluator of the program's operations over values that are known whole or in part, and of the proof that what it answers holds of the program's run. No condition. -/
import Derived.Test.YtlegocibpfflnaaGreatDoorS2
import Derived.Laws.IdiomCopy
import Derived.Laws.Cells
namespace Go.Ab
open Go.RowKit (Below)

theorem setCells_other (b : Nat) : ∀ (vs : List Value) (o : Nat) (w : World) (k : Nat), k ≠ b → (w.setCells b o vs).heap[k]? = w.heap[k]?
  | [], _, _, _, _ => rfl
  | v :: r, o, w, k, h => by rw [World.setCells, setCells_other b r _ _ _ h]; exact Go.RowKit.Below.heap_setCell _ _ _ _ h
theorem setCells_size (b : Nat) : ∀ (vs : List Value) (o : Nat) (w : World), (w.setCells b o vs).heap.size = w.heap.size
  | [], _, _ => rfl
  | v :: r, o, w => by rw [World.setCells, setCells_size b r]; simp
theorem setCells_below {B : Nat} (b : Nat) (hb : B ≤ b) : ∀ (vs : List Value) (o : Nat) (w : World), Below B w (w.setCells b o vs)
  | [], _, w => Below.refl _ _
  | v :: r, o, w => by rw [World.setCells]; exact (Below.setCell (Below.refl B w) (p := ⟨b, o, none⟩) hb v).trans (setCells_below b hb r _ _)

/-- a function turned at one place -/
def upF {α : Type} (f : Nat → α) (n : Nat) (x : α) : Nat → α := fun m => if m = n then x else f m
theorem upF_same {α : Type} (f : Nat → α) (n : Nat) (x : α) : upF f n x n = x := if_pos rfl
theorem upF_other {α : Type} (f : Nat → α) (n : Nat) (x : α) {m : Nat} (h : m ≠ n) : upF f n x m = f m := if_neg h

theorem le_upF {ρ : Rho} {n : Nat} (h : ρ n = none) (L : Loc) : ρ.le (upF ρ n (some L)) := fun m M e => by
  rw [upF_other]; exact e
  rintro rfl; rw [h] at e; cases e

section
variable {B : Nat} {ρ : Rho} {G : Hp} {w : World}
/-- A new block of the world's, of whatever kind. -/
theorem RH.new (r : RH B ρ G w) {n : Nat} (hn : ρ n = none) (o : Obj) (K : Nat) (b : AB)
    (hb : RB B (upF ρ n (some ⟨w.heap.size, 0, K⟩)) (w.alloc o) ⟨w.heap.size, 0, K⟩ b) : RH B (upF ρ n (some ⟨w.heap.size, 0, K⟩)) (upF G n (some b)) (w.alloc o) := by
  have hle := le_upF hn ⟨w.heap.size, 0, K⟩
  have old : ∀ m a, m ≠ n → G m = some a → ∃ L, ρ m = some L ∧ L.blk < w.heap.size ∧ RB B ρ w L a := fun m a _ h => by
    obtain ⟨L, h1, h2⟩ := r.blk m a h
    exact ⟨L, h1, r.inn m L h1, h2⟩
  refine ⟨fun m a hm => ?_, fun m k a c L M ha hc hL hM hmk hown o hao hco hblk => ?_, fun m L hm => ?_⟩
  · by_cases h : m = n
    · subst h
      rw [upF_same] at hm; cases hm
      exact ⟨_, upF_same _ _ _, hb⟩
    · rw [upF_other _ _ _ h] at hm
      obtain ⟨L, h1, h2, h3⟩ := old m a h hm
      refine ⟨L, by rw [upF_other _ _ _ h]; exact h1, (h3.mono hle).same ?_⟩
      exact Go.RowKit.Below.heap_alloc _ _ _ h2
  · by_cases h : m = n
    · subst h
      rw [upF_same] at hL; cases hL
      rw [upF_other _ _ _ (Ne.symm hmk)] at hM
      have := r.inn k M hM
      simp at hblk
      omega
    · by_cases h' : k = n
      · subst h'
        rw [upF_same] at hM; cases hM
        rw [upF_other _ _ _ h] at hL
        have := r.inn m L hL
        simp at hblk
        omega
      · rw [upF_other _ _ _ h] at ha hL
        rw [upF_other _ _ _ h'] at hc hM
        exact r.dis m k a c L M ha hc hL hM hmk hown o hao hco hblk
  · by_cases h : m = n
    · subst h
      rw [upF_same] at hm; cases hm
      simp
    · rw [upF_other _ _ _ h] at hm
      have := r.inn m L hm
      simp; omega
/-- A block of the evaluator's own, turned. -/
theorem RH.upd (r : RH B ρ G w) {n : Nat} {L : Loc} {o o' : AB} {w' : World} (hG : G n = some o) (hL : ρ n = some L) (hown : o.own = true)
    (hs : w'.heap.size = w.heap.size) (hb : ∀ b, b ≠ L.blk → w'.heap[b]? = w.heap[b]?) (hz : w'.heap[L.blk]? = w.heap[L.blk]? ∨ ∃ i, o.has L i)
    (hc : ∀ i, ¬ o.has L i → w'.cell? ⟨L.blk, i, none⟩ = w.cell? ⟨L.blk, i, none⟩) (hf : ∀ a : Addr, w'.frozen? a = w.frozen? a)
    (hn : RB B ρ w' L o') (hhas : ∀ i, o'.has L i → o.has L i) : RH B ρ (upF G n (some o')) w' := by
  have other : ∀ m a M, m ≠ n → G m = some a → ρ m = some M → RB B ρ w M a → RB B ρ w' M a := fun m a M hm ha hM hr => by
    by_cases hblk : M.blk = L.blk
    · rcases hz with hz | ⟨i, hi⟩
      · exact hr.same (by rw [hblk]; exact hz)
      · cases a with
        | cells k c =>
          refine hr.cellwise (fun j hj => ?_) hr.ext_le hf
          rw [hblk]
          exact hc j fun hh => r.dis n m o _ L M hG ha hL hM (Ne.symm hm) hown j hh hj hblk.symm
        | amap es => exact (r.dis n m o _ L M hG ha hL hM (Ne.symm hm) hown i hi trivial hblk.symm).elim
        | siter l p => exact (r.dis n m o _ L M hG ha hL hM (Ne.symm hm) hown i hi trivial hblk.symm).elim
        | dead => trivial
    · exact hr.same (hb _ hblk)
  refine ⟨fun m a hm => ?_, fun m k a c M N ha hc' hM hN hmk hown' i hai hci hblk => ?_, fun m M hm => by rw [hs]; exact r.inn m M hm⟩
  · by_cases h : m = n
    · subst h
      rw [upF_same] at hm; cases hm
      exact ⟨L, hL, hn⟩
    · rw [upF_other _ _ _ h] at hm
      obtain ⟨M, h1, h2⟩ := r.blk m a hm
      exact ⟨M, h1, other m a M h hm h1 h2⟩
  · by_cases h : m = n
    · subst h
      rw [upF_same] at ha; cases ha
      rw [upF_other _ _ _ (Ne.symm hmk)] at hc'
      rw [hL] at hM; cases hM
      exact r.dis m k o c L N hG hc' hL hN hmk hown i (hhas i hai) hci hblk
    · by_cases h' : k = n
      · subst h'
        rw [upF_same] at hc'; cases hc'
        rw [upF_other _ _ _ h] at ha
        rw [hL] at hN; cases hN
        exact r.dis m k a o M L ha hG hM hL hmk hown' i hai (hhas i hci) hblk
      · rw [upF_other _ _ _ h] at ha
        rw [upF_other _ _ _ h'] at hc'
        exact r.dis m k a c M N ha hc' hM hN hmk hown' i hai hci hblk
/-- Nothing but the count of draws has turned. -/
theorem RH.drew (r : RH B ρ G w) (d : Nat) : RH B ρ G { w with drawn := d } := ⟨fun n o h => by obtain ⟨L, h1, h2⟩ := r.blk n o h; exact ⟨L, h1, h2.same rfl⟩, r.dis, r.inn⟩
end
end Go.Ab
