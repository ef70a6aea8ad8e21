/- A part of an evaluator of the program's operations over values that are known whole or in part, and of the proof that what it answers holds of the program's run. No condition. -/
import Derived.Test.YtofkgopegmoidaaGreatDoorS33
namespace T1
open Go Go.Ab Go.Proofs
open Go.RowKit (Below)
set_option maxRecDepth 100000
/-- The tables, with known's answer. -/
noncomputable def E44 : Env := ⟨fnT, tyT, exT, Tr.lf.set 16 (constK (.bool true))⟩
theorem envOK44 : EnvOK Tryz.prog E44 where
  mix := envOK.mix
  ty := envOK.ty
  fn := envOK.fn
  ext := envOK.ext
  con := fun f k h ρ H args v xs e hx => by
    have h' : (Tr.lf.set 16 (constK (.bool true))).get f = some k := h
    rw [Tr.get_set] at h'
    by_cases h1 : f = 16
    · rw [if_pos h1] at h'; cases h'; subst h1
      obtain ⟨rfl, rfl⟩ := constK_eq e
      cases hx
      refine ⟨⟨Tryz.f16, code16, (envOK.fn 16 _ fn16).1, (envOK.fn 16 _ fn16).2, body16⟩, fun B G w _ _ => (known44 w).mono fun e w' he => ?_⟩
      exact ⟨_, he.1, .bool true, he.2⟩
    · rw [if_neg h1] at h'; simp at h'
theorem bodyOK44 : BodyOK E44 := bodyOK
noncomputable def code5 : Code := (Tryz.f5.body).getD .skip
theorem fn5 : E44.fn.get 5 = some Tryz.f5 := by kernel_rfl
theorem body5 : Tryz.f5.body = some code5 := by kernel_rfl
/-- TypesNames at two values that are known in part. -/
noncomputable def tn (a b : AV) : Bool := isTrue (enter E44 (exec E44 3000) ⟨.lf, .lf, 0, 0, []⟩ [a, b] Tryz.f5 code5)
theorem isTrue_ok {E : Env} (hE : EnvOK Tryz.prog E) (hb : BodyOK E) {n f : Nat} {fn : Func} {code : Code} {args : List AV} {xs : List Value} (hf : E.fn.get f = some fn) (hbody : fn.body = some code)
    (h : isTrue (enter E (exec E n) ⟨.lf, .lf, 0, 0, []⟩ args fn code) = true) (hx : RVs (fun _ => none) args xs) (w : World) :
    Calls Tryz.prog f xs.toArray w fun e w' => e = .returned (.bool true) ∧ Below w.heap.size w w' := by
  obtain ⟨h', c, tl, e⟩ := isTrue_eq h
  exact run_ok hE hb hf hbody e hx w fun ρ u w' hu hw => by cases hu; exact ⟨rfl, hw⟩
/-- the names of the eight types -/
noncomputable def eight : List (List Nat) := [[98, 111, 111, 108], [110, 117, 109, 98, 101, 114], [112, 111, 105, 110, 116], [112, 101, 114, 105, 111, 100], [109, 98, 111, 111, 108], [109, 110, 117, 109, 98, 101, 114], [109, 112, 111, 105, 110, 116], [109, 114, 101, 103, 105, 111, 110]]
noncomputable def strs : List AV := .snot eight none (some 20) :: .snot [] (some 21) none :: eight.map .str
noncomputable def nums : List AV := [.rng .i64 none (some 0), .rng .i64 (some 9) none, .int .i64 1, .int .i64 2, .int .i64 3, .int .i64 4, .int .i64 5, .int .i64 6, .int .i64 7, .int .i64 8]
noncomputable def allB (f : AV → Bool) (l : List AV) : Bool := List.rec (motive := fun _ => Bool) true (fun x _ ih => bE (f x) ih false) l
theorem allB_ok {f : AV → Bool} : ∀ {l : List AV}, allB f l = true → ∀ x ∈ l, f x = true
  | [], _, x, hx => by simp at hx
  | y :: l, h, x, hx => by
    have h' : bE (f y) (allB f l) false = true := h
    cases hy : f y with
    | false => rw [hy] at h'; cases h'
    | true =>
      rw [hy, bE_true] at h'
      rcases List.mem_cons.1 hx with rfl | hx
      · exact hy
      · exact allB_ok h' x hx
theorem tn0 : allB (fun b => tn (.rng .i64 none (some 0)) b) strs = true := by kernel_rfl
theorem tn1 : allB (fun b => tn (.rng .i64 (some 9) none) b) strs = true := by kernel_rfl
theorem tn2 : allB (fun b => tn (.int .i64 1) b) strs = true := by kernel_rfl
theorem tn3 : allB (fun b => tn (.int .i64 2) b) strs = true := by kernel_rfl
theorem tn4 : allB (fun b => tn (.int .i64 3) b) strs = true := by kernel_rfl
theorem tn5 : allB (fun b => tn (.int .i64 4) b) strs = true := by kernel_rfl
theorem tn6 : allB (fun b => tn (.int .i64 5) b) strs = true := by kernel_rfl
theorem tn7 : allB (fun b => tn (.int .i64 6) b) strs = true := by kernel_rfl
theorem tn8 : allB (fun b => tn (.int .i64 7) b) strs = true := by kernel_rfl
theorem tn9 : allB (fun b => tn (.int .i64 8) b) strs = true := by kernel_rfl
theorem nums_has (t : Int) : ∃ a ∈ nums, RV (fun _ => none) a (.int .i64 t) := by
  by_cases h0 : t ≤ 0
  · exact ⟨.rng .i64 none (some 0), by simp [nums], .rng _ _ _ _ (fun l h => by cases h) (fun l h => by cases h; exact h0)⟩
  by_cases h9 : 9 ≤ t
  · exact ⟨.rng .i64 (some 9) none, by simp [nums], .rng _ _ _ _ (fun l h => by cases h; exact h9) (fun l h => by cases h)⟩
  refine ⟨.int .i64 t, ?_, .int _ _⟩
  have : t = 1 ∨ t = 2 ∨ t = 3 ∨ t = 4 ∨ t = 5 ∨ t = 6 ∨ t = 7 ∨ t = 8 := by omega
  rcases this with rfl | rfl | rfl | rfl | rfl | rfl | rfl | rfl <;> simp [nums]
theorem strs_has (s : ByteArray) : ∃ b ∈ strs, RV (fun _ => none) b (.string s) := by
  by_cases h20 : s.size ≤ 20
  · by_cases h8 : bytesOf s ∈ eight
    · exact ⟨.str (bytesOf s), by simp only [strs, List.mem_cons, List.mem_map]; exact .inr (.inr ⟨_, h8, rfl⟩), .str s⟩
    · exact ⟨.snot eight none (some 20), by simp [strs], .snot _ _ _ _ (fun c hc e => h8 (e ▸ hc)) (fun l h => by cases h) (fun l h => by cases h; exact h20)⟩
  · exact ⟨.snot [] (some 21) none, by simp [strs], .snot _ _ _ _ (fun c hc => by simp at hc) (fun l h => by cases h; omega) (fun l h => by cases h)⟩
theorem law5 (t : Int) (s : ByteArray) (w : World) : Calls Tryz.prog 5 #[.int .i64 t, .string s] w fun e w' => e = .returned (.bool true) ∧ Below w.heap.size w w' := by
  obtain ⟨a, ha, hra⟩ := nums_has t
  obtain ⟨b, hb, hrb⟩ := strs_has s
  have h : tn a b = true := by
    simp only [nums, List.mem_cons, List.mem_nil_iff, or_false] at ha
    rcases ha with rfl | rfl | rfl | rfl | rfl | rfl | rfl | rfl | rfl | rfl
    · exact allB_ok tn0 b hb
    · exact allB_ok tn1 b hb
    · exact allB_ok tn2 b hb
    · exact allB_ok tn3 b hb
    · exact allB_ok tn4 b hb
    · exact allB_ok tn5 b hb
    · exact allB_ok tn6 b hb
    · exact allB_ok tn7 b hb
    · exact allB_ok tn8 b hb
    · exact allB_ok tn9 b hb
  exact isTrue_ok (xs := [.int .i64 t, .string s]) envOK44 bodyOK44 fn5 body5 h (.cons hra (.cons hrb .nil)) w
#print axioms law5
end T1
