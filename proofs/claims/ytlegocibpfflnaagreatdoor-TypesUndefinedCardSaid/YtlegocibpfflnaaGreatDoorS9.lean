/- A part of an evaluator of the program's operations over values that are known whole or in part, and of the proof that what it answers holds of the program's run. No condition. -/
import Derived.Test.YtlegocibpfflnaaGreatDoorS8
namespace Go.Ab
open Go.RowKit (Below)
section
variable {P : Program} {E : Env} {B : Nat} {ρ : Rho} {G : Hp} {w : World}

/-! Equality. -/
theorem beqB_eq (a b : Bool) : beqB a b = (a == b) := by cases a <;> cases b <;> rfl
theorem isNone_some_false {α : Type} (a : α) : (some a).isNone = false := rfl
theorem DR.bool {d : TypeDesc} (h : DR .bool d) : d = .bool := by cases d <;> simp [DR] at h ⊢
theorem DR.str {d : TypeDesc} (h : DR .str d) : d = .string := by cases d <;> simp [DR] at h ⊢
theorem DR.int {k : IntKind} {d : TypeDesc} (h : DR (.int k) d) : d = .int k := by cases d <;> simp [DR] at h ⊢; exact h
theorem DR.ptr {d : TypeDesc} (h : DR .ptr d) : ∃ q, d = .pointer q := by cases d <;> simp [DR] at h ⊢
theorem DR.sl {e : Nat} {d : TypeDesc} (h : DR (.sl e) d) : d = .slice e := by cases d <;> simp [DR] at h ⊢; exact h
theorem DR.arr {n e : Nat} {d : TypeDesc} (h : DR (.arr n e) d) : d = .array n e := by cases d <;> simp [DR] at h ⊢; exact h
theorem DR.map {k e : Nat} {d : TypeDesc} (h : DR (.map k e) d) : d = .map k e := by cases d <;> simp [DR] at h ⊢; exact h
theorem DR.fn {d : TypeDesc} (h : DR .fn d) : ∃ a b c, d = .func a b c := by cases d <;> simp [DR] at h ⊢
set_option maxHeartbeats 2000000 in
theorem eqD_ok {ti : TI} {t : Nat} (ht : TyOK P t ti) {x y : AV} {X Y : Value} {b : Bool} (hx : RV ρ x X) (hy : RV ρ y Y) (e : eqD ti.eq ti.z ti.d x y = some b) (w : World) :
    (Op.equal t X Y).run P w = .ok b w ∧ ((∃ a c, X = .agg a ∧ Y = .agg c) → P.eqGuardType P.depth t = false) ∧ X ≠ .nilIface := by
  obtain ⟨d, hd1, hd2, _, hd3⟩ := ht.und
  unfold eqD at e
  split at e <;> first | (cases e; done) | skip
  all_goals (rename_i hd; rw [hd] at hd2)
  all_goals (obtain ⟨dp, hdp⟩ : ∃ dp, Op.maxDepth = dp + 1 := ⟨9999, rfl⟩)
  case h_1 =>
    obtain rfl := DR.bool hd2
    cases hx; cases hy; cases e
    refine ⟨?_, fun h => ?_, by simp⟩
    · unfold Op.equal; rw [hdp]; simp [Op.equalIn, hd3, beqB_eq]
    · obtain ⟨_, _, h, _⟩ := h; cases h
  case h_2 =>
    obtain ⟨h1, h2⟩ := bE_none_eq e
    cases hx with
    | agg l C hc => cases hy with
      | agg m D hd' =>
        obtain ⟨h3, h4⟩ := bE_none_eq h2
        have := ht.eq h1 ρ _ _ C D b hc hd' h3 h4 w
        exact ⟨this.1, fun _ => this.2, by simp⟩
  case h_3 =>
    obtain ⟨h1, h2⟩ := bE_none_eq e
    cases hx with
    | agg l C hc => cases hy with
      | agg m D hd' =>
        obtain ⟨h3, h4⟩ := bE_none_eq h2
        have := ht.eq h1 ρ _ _ C D b hc hd' h3 h4 w
        exact ⟨this.1, fun _ => this.2, by simp⟩
  all_goals first
    | (obtain ⟨q, rfl⟩ := DR.ptr hd2)
    | (obtain rfl := DR.sl hd2)
    | (obtain rfl := DR.map hd2)
    | (obtain ⟨q, q', q'', rfl⟩ := DR.fn hd2)
  all_goals (cases hx <;> cases hy <;> cases e <;>
    refine ⟨?_, fun h => (by obtain ⟨_, _, h, _⟩ := h; cases h), by simp⟩ <;> (unfold Op.equal; rw [hdp]; simp [Op.equalIn, hd3]))
/-! What is known in part. -/
theorem oE_or_eq {α β : Type} {x : Option α} {n : Option β} {s : α → Option β} {b : β} (h : oE x n s = some b) : (∃ a, x = some a ∧ s a = some b) ∨ n = some b := by
  cases x with
  | none => exact .inr h
  | some a => exact .inl ⟨a, rfl, h⟩
theorem yesNo_eq {a b : Bool} {v : AV} (e : yesNo a b = some v) : (a = true ∧ v = .bool true) ∨ (b = true ∧ v = .bool false) := by
  cases a with
  | true => cases (show some (AV.bool true) = some v from e); exact .inl ⟨rfl, rfl⟩
  | false => cases b with
    | true => cases (show some (AV.bool false) = some v from e); exact .inr ⟨rfl, rfl⟩
    | false => cases e
theorem belowR_ok {lo : Option Int} {n m : Int} (h : belowR lo n = true) (k : ∀ l, lo = some l → l ≤ m) : n < m := by
  cases lo with
  | none => cases h
  | some l => have h1 : ilt n l = true := h; rw [ilt_eq, decide_eq_true_eq] at h1; have := k l rfl; omega
theorem aboveR_ok {hi : Option Int} {n m : Int} (h : aboveR hi n = true) (k : ∀ l, hi = some l → m ≤ l) : m < n := by
  cases hi with
  | none => cases h
  | some l => have h1 : ilt l n = true := h; rw [ilt_eq, decide_eq_true_eq] at h1; have := k l rfl; omega
theorem atLo_ok {lo : Option Int} {n m : Int} (h : atLo lo n = true) (k : ∀ l, lo = some l → l ≤ m) : n ≤ m := by
  cases lo with
  | none => cases h
  | some l => have h1 : (!ilt l n) = true := h; rw [ilt_eq, Bool.not_eq_true', decide_eq_false_iff_not] at h1; have := k l rfl; omega
theorem atHi_ok {hi : Option Int} {n m : Int} (h : atHi hi n = true) (k : ∀ l, hi = some l → m ≤ l) : m ≤ n := by
  cases hi with
  | none => cases h
  | some l => have h1 : (!ilt n l) = true := h; rw [ilt_eq, Bool.not_eq_true', decide_eq_false_iff_not] at h1; have := k l rfl; omega
theorem rngC_ok {op : BinOp} {lo hi : Option Int} {n m : Int} {v : AV} (e : rngC op lo hi n = some v) (hl : ∀ l, lo = some l → l ≤ m) (hh : ∀ h, hi = some h → m ≤ h) :
    op ≠ .shl ∧ op ≠ .shr ∧ ∀ k, intBin op k m n = some v ∧ intBin (flipC op) k n m = some v := by
  unfold rngC at e
  split at e <;> first | (cases e; done) | skip
  all_goals (refine ⟨by simp, by simp, fun k => ?_⟩)
  all_goals (simp only [intBin, flipC, ieq_eq, ilt_eq])
  · rcases yesNo_eq e with ⟨h, rfl⟩ | ⟨h, rfl⟩
    · cases h
    · have : m ≠ n := by
        rcases Bool.or_eq_true _ _ ▸ h with h | h
        · have := belowR_ok h hl; omega
        · have := aboveR_ok h hh; omega
      simp [this, Ne.symm this]
  · rcases yesNo_eq e with ⟨h, rfl⟩ | ⟨h, rfl⟩
    · have : m ≠ n := by
        rcases Bool.or_eq_true _ _ ▸ h with h | h
        · have := belowR_ok h hl; omega
        · have := aboveR_ok h hh; omega
      simp [this, Ne.symm this]
    · cases h
  · rcases yesNo_eq e with ⟨h, rfl⟩ | ⟨h, rfl⟩
    · have := aboveR_ok h hh; simp; omega
    · have := atLo_ok h hl; simp; omega
  · rcases yesNo_eq e with ⟨h, rfl⟩ | ⟨h, rfl⟩
    · have := atHi_ok h hh; simp; omega
    · have := belowR_ok h hl; simp; omega
  · rcases yesNo_eq e with ⟨h, rfl⟩ | ⟨h, rfl⟩
    · have := belowR_ok h hl; simp; omega
    · have := atHi_ok h hh; simp; omega
  · rcases yesNo_eq e with ⟨h, rfl⟩ | ⟨h, rfl⟩
    · have := atLo_ok h hl; simp; omega
    · have := aboveR_ok h hh; simp; omega
theorem flipC_flipC (op : BinOp) : flipC (flipC op) = op := by cases op <;> rfl
theorem memS_ok (c : List Nat) : ∀ {l : List (List Nat)}, memS c l = true → c ∈ l
  | [], h => by cases h
  | x :: l, h => by
    have h1 : bE (seq x c) true (memS c l) = true := h
    cases hx : seq x c with
    | true => have := (seq_iff x c).1 hx; subst this; simp
    | false => rw [hx, bE_false] at h1; simp [memS_ok c h1]
theorem snotC_ok {op : BinOp} {ne : List (List Nat)} {c a : List Nat} {v : AV} (e : snotC op ne c = some v) (h : ∀ x ∈ ne, a ≠ x) : strBin op a c = some v ∧ strBin op c a = some v := by
  have fin : memS c ne = true → seq a c = false ∧ seq c a = false := fun hm => by
    have := h c (memS_ok c hm)
    constructor
    · cases hs : seq a c with
      | false => rfl
      | true => exact absurd ((seq_iff _ _).1 hs) this
    · cases hs : seq c a with
      | false => rfl
      | true => exact absurd ((seq_iff _ _).1 hs).symm this
  unfold snotC at e
  split at e <;> first | (cases e; done) | skip
  · rcases yesNo_eq e with ⟨h1, rfl⟩ | ⟨h1, rfl⟩
    · cases h1
    · simp [strBin, fin h1]
  · rcases yesNo_eq e with ⟨h1, rfl⟩ | ⟨h1, rfl⟩
    · simp [strBin, fin h1]
    · cases h1
/-- the two operands, as they would be evaluated if they were known whole -/
theorem binX_ok {op : BinOp} {x y v : AV} {X Y : Value} (hx : RV ρ x X) (hy : RV ρ y Y) (e : binX op x y = some v) :
    (∃ k a b, X = .int k a ∧ Y = .int k b ∧ op ≠ .shl ∧ op ≠ .shr ∧ intBin op k a b = some v) ∨ (∃ a b, X = .string a ∧ Y = .string b ∧ strBin op (bytesOf a) (bytesOf b) = some v) := by
  unfold binX at e
  split at e
  · obtain ⟨h1, e1⟩ := bE_none_eq e
    obtain rfl := keq_eq h1
    cases hy
    cases hx with
    | rng k lo hi n hl hh =>
      obtain ⟨h2, h3, h4⟩ := rngC_ok e1 hl hh
      exact .inl ⟨_, _, _, rfl, rfl, h2, h3, (h4 _).1⟩
  · obtain ⟨h1, e1⟩ := bE_none_eq e
    obtain rfl := keq_eq h1
    cases hx
    cases hy with
    | rng k lo hi n hl hh =>
      obtain ⟨h2, h3, h4⟩ := rngC_ok e1 hl hh
      rw [flipC_flipC] at h4
      refine .inl ⟨_, _, _, rfl, rfl, fun h => ?_, fun h => ?_, (h4 _).2⟩
      · subst h; exact h2 rfl
      · subst h; exact h3 rfl
  · cases hy
    cases hx with
    | snot ne lo hi s hn _ _ => exact .inr ⟨_, _, rfl, rfl, (snotC_ok e hn).1⟩
  · cases hx
    cases hy with
    | snot ne lo hi s hn _ _ => exact .inr ⟨_, _, rfl, rfl, (snotC_ok e hn).2⟩
  · cases e
theorem bin_ok (hE : EnvOK P E) {op : BinOp} {t : Nat} {xo yo : Operand} {x y v : AV} {X Y : Value} (hx : RV ρ x X) (hy : RV ρ y Y) (e : bin E op t x y = some v) :
    ∃ u, (do eqGuard op t xo yo X Y; binOp op t X Y : Sem Value).run P w = .ok u w ∧ RV ρ v u := by
  have noG : ∀ (X Y : Value), (¬ ∃ a c, X = .agg a ∧ Y = .agg c) → X ≠ .nilIface → (eqGuard op t xo yo X Y).run P w = .ok () w := by
    intro X Y h1 h2
    unfold eqGuard
    cases op <;> first
      | rfl
      | (simp only [Bool.not_true, Bool.false_eq_true, if_false]
         split
         · exact absurd rfl h2
         · exact absurd ⟨_, _, rfl, rfl⟩ h1
         · rfl)
  have viaX : binX op x y = some v → ∃ u, (do eqGuard op t xo yo X Y; binOp op t X Y : Sem Value).run P w = .ok u w ∧ RV ρ v u := by
    intro e
    rcases binX_ok hx hy e with ⟨k, a, b, rfl, rfl, h2, h3, h4⟩ | ⟨a, b, rfl, rfl, h4⟩
    · have hg := noG (.int k a) (.int k b) (fun h => by obtain ⟨_, _, h, _⟩ := h; cases h) (by simp)
      simp only [Sem.run_bind, hg, Result.andThen_ok]
      exact intBin_ok t h2 h3 h4
    · have hg := noG (.string a) (.string b) (fun h => by obtain ⟨_, _, h, _⟩ := h; cases h) (by simp)
      simp only [Sem.run_bind, hg, Result.andThen_ok]
      exact strBin_ok t h4
  unfold bin at e
  cases hxi : asInt x with
  | some p =>
    obtain ⟨k, a⟩ := p
    obtain rfl := asInt_eq hxi
    rw [hxi, oE_some] at e
    obtain ⟨⟨j, b⟩, hyi, e1⟩ | e1 := oE_or_eq e
    case inr => exact viaX e1
    obtain rfl := asInt_eq hyi
    rw [pE_mk, pE_mk] at e1
    cases hx; cases hy
    have hg := noG (.int k a) (.int j b) (fun h => by obtain ⟨_, _, h, _⟩ := h; cases h) (by simp)
    simp only [Sem.run_bind, hg, Result.andThen_ok]
    by_cases h1 : op = .shl ∨ op = .shr
    · exact shift_ok t h1 e1
    · have h2 : op ≠ .shl := fun h => h1 (.inl h)
      have h3 : op ≠ .shr := fun h => h1 (.inr h)
      have e2 : bE (keq k j) (intBin op k a b) none = some v := by
        cases op <;> first | exact e1 | exact absurd rfl h2 | exact absurd rfl h3
      obtain ⟨h4, e3⟩ := bE_none_eq e2
      obtain rfl := keq_eq h4
      exact intBin_ok t h2 h3 e3
  | none =>
    rw [hxi, oE_none] at e
    unfold binS at e
    cases hxs : asStr x with
    | some l =>
      obtain rfl := asStr_eq hxs
      rw [hxs, oE_some] at e
      obtain ⟨m, hys, e1⟩ | e1 := oE_or_eq e
      case inr => exact viaX e1
      obtain rfl := asStr_eq hys
      cases hx with
      | str s => cases hy with
        | str s' =>
          have hg := noG (.string s) (.string s') (fun h => by obtain ⟨_, _, h, _⟩ := h; cases h) (by simp)
          simp only [Sem.run_bind, hg, Result.andThen_ok]
          exact strBin_ok t e1
    | none =>
      rw [hxs, oE_none] at e
      obtain ⟨v', hv', e1⟩ | e1 := oE_or_eq (show oE (binV E op t x y) (binX op x y) some = some v from e)
      case inr => exact viaX e1
      cases e1
      replace e := hv'
      have main : ∀ b, eqv E t x y = some b → (op = .eql ∨ op = .neq) → (Op.equal t X Y).run P w = .ok b w ∧ (eqGuard op t xo yo X Y).run P w = .ok () w := by
        intro b hb hop
        obtain ⟨ti, ht, e1⟩ := oE_none_eq hb
        obtain ⟨h1, h2, h3⟩ := eqD_ok (hE.ty _ _ ht) hx hy e1 w
        refine ⟨h1, ?_⟩
        by_cases hagg : ∃ a c, X = .agg a ∧ Y = .agg c
        · have := h2 hagg
          obtain ⟨a, c, rfl, rfl⟩ := hagg
          unfold eqGuard
          rcases hop with rfl | rfl <;> simp [this]
        · exact noG X Y hagg h3
      have shape : ∀ b, eqv E t x y = some b → binOp .eql t X Y = (do Pure.pure (.bool (← Op.equal t X Y))) ∧ binOp .neq t X Y = (do Pure.pure (.bool (!(← Op.equal t X Y)))) := by
        intro b hb
        obtain ⟨ti, ht, e1⟩ := oE_none_eq hb
        unfold eqD at e1
        split at e1 <;> first | (cases e1; done) | skip
        all_goals (cases hx <;> cases hy <;> exact ⟨rfl, rfl⟩)
      unfold binV at e
      split at e
      · obtain ⟨b, hb, e1⟩ := oE_none_eq e
        cases e1
        obtain ⟨h1, h2⟩ := main b hb (.inl rfl)
        exact ⟨.bool b, by simp only [Sem.run_bind, h2, Result.andThen_ok, (shape b hb).1, h1]; rfl, .bool b⟩
      · obtain ⟨b, hb, e1⟩ := oE_none_eq e
        cases e1
        obtain ⟨h1, h2⟩ := main b hb (.inr rfl)
        exact ⟨.bool (!b), by simp only [Sem.run_bind, h2, Result.andThen_ok, (shape b hb).2, h1]; rfl, .bool _⟩
      · cases e
theorem un_ok {op : UnOp} {x v : AV} {X : Value} (hx : RV ρ x X) (e : un op x = some v) : ∃ u, (Op.unary op X).run P w = .ok u w ∧ RV ρ v u := by
  unfold un at e
  split at e
  · cases hx; cases e; exact ⟨_, rfl, .bool _⟩
  · cases hx
    rw [mkW_eq] at e; cases e
    exact ⟨_, rfl, .int _ _⟩
  · cases e
end
end Go.Ab
