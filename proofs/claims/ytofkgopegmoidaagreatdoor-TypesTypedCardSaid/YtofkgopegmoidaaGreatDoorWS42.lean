/- A part of an evaluator of the program's operations over values that are known whole or in part, and of the proof that what it answers holds of the program's run. No condition. -/
import Derived.Test.YtofkgopegmoidaaGreatDoorWS41
namespace T1
open Go Go.Ab Go.Proofs
open Go.RowKit (Below)
theorem fn11 : T1.E.fn.get 11 = some Tryz.f11 := by kernel_rfl
theorem fn12 : T1.E.fn.get 12 = some Tryz.f12 := by kernel_rfl
theorem body11 : Tryz.f11.body = some (bodyOf Tryz.f11) := by kernel_rfl
theorem body12 : Tryz.f12.body = some (bodyOf Tryz.f12) := by kernel_rfl
/-- rewrite.Compare of two good expressions -/
theorem cmp11 {ex ey : Ex} (gx : Good ex) (gy : Good ey) {w : World} {X Y : List Value} (h0 : 0 < w.heap.size) (hX : IsEx w (· < w.heap.size) ex X) (hY : IsEx w (· < w.heap.size) ey Y) :
    Calls Tryz.prog 11 #[.agg X.toArray, .agg Y.toArray] w fun e w' => e = .returned (.int .i64 (cmpE ex ey)) ∧ Below w.heap.size w w' :=
  cmp_step 11 Tryz.f11 fn11 body11 h11a h11b h11c t11 num _ ex ey (Nat.le_refl _) gx gy w X Y h0 hX hY
/-- the model's compare of two good expressions -/
theorem cmp12 {ex ey : Ex} (gx : Good ex) (gy : Good ey) {w : World} {X Y : List Value} (h0 : 0 < w.heap.size) (hX : IsEx w (· < w.heap.size) ex X) (hY : IsEx w (· < w.heap.size) ey Y) :
    Calls Tryz.prog 12 #[.agg X.toArray, .agg Y.toArray] w fun e w' => e = .returned (.int .i64 (cmpE ex ey)) ∧ Below w.heap.size w w' :=
  cmp_step 12 Tryz.f12 fn12 body12 h12a h12b h12c t12 num _ ex ey (Nat.le_refl _) gx gy w X Y h0 hX hY
#print axioms cmp12
end T1
