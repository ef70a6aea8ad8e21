/- A part of an evaluator of the program's operations over values that are known whole or in part, and of the proof that what it answers holds of the program's run. No condition. -/
import Derived.Test.YtofkgopegmoidaaGreatDoorS32
import Derived.WalkKit
import Derived.WalkSpells
import Derived.Lib.Slices
namespace T1
open Go Go.Ab Go.Proofs Go.RowKit

/-! slices.Index and slices.Contains at []int: walked once (the walk is the worked one of the kit, turned to this program's numbers). -/
set_option maxHeartbeats 1000000 in
theorem index_int (b off n c : Nat) (zs : List Int) (x : Int) (w : World) (hz : n ≤ zs.length) (hbig : n ≤ 9223372036854775807) (hc : ∀ j, j < zs.length → w.cell? ⟨b, off + j, none⟩ = some (.int .i64 (zs.getD j 0))) :
    Calls Tryz.prog 247 #[.slice (some ⟨b, off, none⟩) n c, .int .i64 x] w fun e w' => e = .returned (.int .i64 (Lib.idxOf (zs.take n) x)) ∧ w' = w := by
  go_enter Tryz.func247, Tryz.ntmps247
  go_wp2
  go_loop [5, 8] (fun _ i => ∃ k : Nat, k ≤ n ∧ i = .int .i64 k ∧ ∀ j, j < k → zs.getD j 0 ≠ x) (fun _ i => match i with | .int _ m => n - m.toNat | _ => 0)
  case atStart => exact ⟨0, Nat.zero_le _, rfl, fun j hj => absurd hj (Nat.not_lt_zero _)⟩
  case round =>
    obtain ⟨k, hk, rfl, hne⟩ := hrel
    have hcell : k < n → w.cell? ⟨b, off + k, none⟩ = some (.int .i64 (zs.getD k 0)) := fun _ => hc k (by omega)
    go_wp2
    · have hlt : k < n := by assumption
      have heq : (x == zs[k]?.getD 0) = true := by assumption
      go_ret
      refine ⟨?_, rfl⟩
      rw [Lib.idxOf_hit zs n k x hlt hz (by simp only [List.getD]; exact (beq_iff_eq.1 heq).symm) hne]
      rfl
    · have hlt : k < n := by assumption
      have hneq : (x == zs[k]?.getD 0) = false := by assumption
      refine ⟨⟨k + 1, by omega, rfl, fun j hj => ?_⟩, ?_⟩
      · by_cases e : j = k
        · subst e
          intro he
          rw [List.getD_eq_getElem?_getD] at he
          rw [he] at hneq
          simp at hneq
        · exact hne j (by omega)
      · show n - ((k : Int) + 1).toNat < n - ((k : Int)).toNat
        omega
    · have hge : ¬ k < n := by assumption
      have : k = n := by omega
      subst this
      go_ret
      refine ⟨?_, rfl⟩
      rw [Lib.idxOf_miss zs k x hne]
      rfl

set_option maxHeartbeats 1000000 in
theorem index_int_empty (a : Option Addr) (c : Nat) (x : Int) (w : World) :
    Calls Tryz.prog 247 #[.slice a 0 c, .int .i64 x] w fun e w' => e = .returned (.int .i64 (-1)) ∧ w' = w := by
  go_enter Tryz.func247, Tryz.ntmps247
  go_wp2
  go_loop [5, 8] (fun _ i => i = .int .i64 0) (fun _ _ => 0)
  case atStart => rfl
  case round =>
    subst hrel
    go_wp2
    go_ret
    exact ⟨rfl, rfl⟩
theorem contains_int (b off n c : Nat) (zs : List Int) (x : Int) (w : World) (hz : n ≤ zs.length) (hbig : n ≤ 9223372036854775807) (hc : ∀ j, j < zs.length → w.cell? ⟨b, off + j, none⟩ = some (.int .i64 (zs.getD j 0))) :
    Calls Tryz.prog 213 #[.slice (some ⟨b, off, none⟩) n c, .int .i64 x] w fun e w' => e = .returned (.bool ((zs.take n).contains x)) ∧ w' = w := by
  have hb : (zs.take n).contains x = decide (0 ≤ Lib.idxOf (zs.take n) x) := by
    rw [Bool.eq_iff_iff, decide_eq_true_eq, Lib.idxOf_nonneg_iff]
  rw [hb]
  go_enter Tryz.func213, Tryz.ntmps213
  go_wp2_with fail
  refine (index_int b off n c zs x _ hz hbig hc).mono ?_
  rintro e w' ⟨rfl, rfl⟩
  go_wp2
  go_ret
  exact ⟨rfl, rfl⟩
theorem contains_int_empty (a : Option Addr) (c : Nat) (x : Int) (w : World) :
    Calls Tryz.prog 213 #[.slice a 0 c, .int .i64 x] w fun e w' => e = .returned (.bool false) ∧ w' = w := by
  go_enter Tryz.func213, Tryz.ntmps213
  go_wp2_with fail
  refine (index_int_empty a c x _).mono ?_
  rintro e w' ⟨rfl, rfl⟩
  go_wp2
  go_ret
  exact ⟨rfl, rfl⟩
end T1
