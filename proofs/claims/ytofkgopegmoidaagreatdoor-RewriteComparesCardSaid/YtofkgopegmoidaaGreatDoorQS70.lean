/- A part of an evaluator of the program's operations over values that are known whole or in part, and of the proof that what it answers holds of the program's run. No condition. -/
import Derived.Test.YtofkgopegmoidaaGreatDoorQS59
import Derived.Test.YtofkgopegmoidaaGreatDoorQS60
namespace T1
open Go Go.Ab Go.Proofs
open Go.RowKit (Below)
set_option maxRecDepth 20000 in
set_option maxHeartbeats 4000000 in
/-- rewrite.Equal of two good expressions -/
theorem equal13 {ex ey : Ex} (gx : Good ex) (gy : Good ey) {w : World} {X Y : List Value} (h0 : 0 < w.heap.size) (hX : IsEx w (· < w.heap.size) ex X) (hY : IsEx w (· < w.heap.size) ey Y) :
    Calls Tryz.prog 13 #[.agg X.toArray, .agg Y.toArray] w fun e w' => e = .returned (.bool (decide (cmpE ex ey = 0))) ∧ Below w.heap.size w w' := by
  have step : ∀ w1, Below w.heap.size w w1 → Calls Tryz.prog 11 #[.agg X.toArray, .agg Y.toArray] w1 fun e w' => e = .returned (.int .i64 (cmpE ex ey)) ∧ Below w1.heap.size w1 w' := fun w1 hb =>
    cmp11 gx gy (Nat.lt_of_lt_of_le h0 hb.size) (hX.mono (fun k hk => Nat.lt_of_lt_of_le hk hb.size) (fun k hk => hb.block k hk)) (hY.mono (fun k hk => Nat.lt_of_lt_of_le hk hb.size) (fun k hk => hb.block k hk))
  have hb2 : ∀ o1 o2, Below w.heap.size w ((w.alloc o1).alloc o2) := fun o1 o2 => ((Below.refl _ w).alloc (Nat.le_refl _) o1).alloc (by simp) o2
  cases hX with
  | mk hx => cases hY with
    | mk hy =>
      rename_i q0 q1 q2 q3 q4 q5 q6 q7 r0 r1 r2 r3 r4 r5 r6 r7
      obtain ⟨t0, t1, t2, rfl⟩ : ∃ a l c, q7 = .slice a l c := by cases hx <;> exact ⟨_, _, _, rfl⟩
      obtain ⟨u0, u1, u2, rfl⟩ : ∃ a l c, r7 = .slice a l c := by cases hy <;> exact ⟨_, _, _, rfl⟩
      generalize cmpE (.mk q0 q1 q2 q3 q4 q5 q6) (.mk r0 r1 r2 r3 r4 r5 r6) = res at step ⊢
      go_enter Tryz.func13, Tryz.ntmps13
      go_wp2_with fail
      refine (step _ (hb2 _ _)).mono ?_
      rintro e w2 ⟨rfl, hb⟩
      have hb3 := (hb2 _ _).trans (hb.mono (hb2 _ _).size)
      clear hb step hx hy gx gy
      go_wp2_with fail
      go_ret
      refine ⟨?_, hb3⟩
      congr 1
end T1
