/- A part of an evaluator of the program's operations over values that are known whole or in part, and of the proof that what it answers holds of the program's run. No condition. -/
import Derived.Test.YtofkgopegmoidaaGreatDoorWS7
namespace Go.Ab
open Go.RowKit (Below)
section
variable {P : Program} {E : Env} {B : Nat} {ρ : Rho} {G : Hp} {w : World}

/-! Numbers. -/
theorem iE_eq {β : Type} (n : Int) (f g : Nat → β) : iE n f g = match n with | .ofNat m => f m | .negSucc m => g m := by cases n <;> rfl
theorem mkInt_eq (k : IntKind) (n : Int) : mkInt k n = some (.int k n) := by
  cases n with
  | ofNat m => cases m <;> rfl
  | negSucc m => cases m <;> rfl
theorem wrap_top (k : IntKind) (m : Nat) (h : m < top k) : k.wrap (.ofNat m) = .ofNat m := by
  cases k <;> simp [top, IntKind.wrap, IntKind.bits, IntKind.signed] at h ⊢ <;> omega
theorem wrap_bot (k : IntKind) (m : Nat) (h : m < bot k) : k.wrap (.negSucc m) = .negSucc m := by
  rw [Int.negSucc_eq]
  have h2 : (m : Int) < bot k := by exact_mod_cast h
  have h4 : 0 ≤ (m : Int) := Int.natCast_nonneg m
  generalize (m : Int) = z at h2 h4 ⊢
  clear h
  cases k
  · have h3 : z < 128 := h2
    simp only [IntKind.wrap, IntKind.bits, IntKind.signed, Bool.true_and, decide_eq_true_eq, show (2 : Int) ^ 8 = 256 from rfl, show (2 : Int) ^ (8 - 1) = 128 from rfl]
    split <;> omega
  · have h3 : z < 32768 := h2
    simp only [IntKind.wrap, IntKind.bits, IntKind.signed, Bool.true_and, decide_eq_true_eq, show (2 : Int) ^ 16 = 65536 from rfl, show (2 : Int) ^ (16 - 1) = 32768 from rfl]
    split <;> omega
  · have h3 : z < 2147483648 := h2
    simp only [IntKind.wrap, IntKind.bits, IntKind.signed, Bool.true_and, decide_eq_true_eq, show (2 : Int) ^ 32 = 4294967296 from rfl, show (2 : Int) ^ (32 - 1) = 2147483648 from rfl]
    split <;> omega
  · have h3 : z < 9223372036854775808 := h2
    simp only [IntKind.wrap, IntKind.bits, IntKind.signed, Bool.true_and, decide_eq_true_eq, show (2 : Int) ^ 64 = 18446744073709551616 from rfl, show (2 : Int) ^ (64 - 1) = 9223372036854775808 from rfl]
    split <;> omega
  all_goals (have h3 : z < 0 := h2; omega)
theorem mkW_eq (k : IntKind) (n : Int) : mkW k n = some (.int k (k.wrap n)) := by
  cases n with
  | ofNat m =>
    show bE (Nat.ble (.succ m) (top k)) _ (mkInt k (k.wrap (.ofNat m))) = _
    cases h : Nat.ble (.succ m) (top k) with
    | false => rw [bE_false, mkInt_eq]
    | true => rw [bE_true, wrap_top k m (ble_true h)]; cases m <;> rfl
  | negSucc m =>
    show bE (Nat.ble (.succ m) (bot k)) _ (mkInt k (k.wrap (.negSucc m))) = _
    cases h : Nat.ble (.succ m) (bot k) with
    | false => rw [bE_false, mkInt_eq]
    | true => rw [bE_true, wrap_bot k m (ble_true h)]; cases m <;> rfl
theorem ieq_eq (a b : Int) : ieq a b = (a == b) := by
  cases a with
  | ofNat m => cases b with
    | ofNat n =>
      show Nat.beq m n = _
      cases h : Nat.beq m n with
      | true => rw [beq_true h]; simp
      | false => have := beq_false h; simp; omega
    | negSucc n => show false = _; simp
  | negSucc m => cases b with
    | ofNat n => show false = _; simp
    | negSucc n =>
      show Nat.beq m n = _
      cases h : Nat.beq m n with
      | true => rw [beq_true h]; simp
      | false => have := beq_false h; simp; omega
theorem ilt_eq (a b : Int) : ilt a b = decide (a < b) := by
  cases a with
  | ofNat m => cases b with
    | ofNat n =>
      show Nat.ble (.succ m) n = _
      cases h : Nat.ble (.succ m) n with
      | true => have := ble_true h; symm; rw [decide_eq_true_iff]; simp; omega
      | false => have := ble_false h; symm; rw [decide_eq_false_iff_not]; simp; omega
    | negSucc n => show false = _; symm; rw [decide_eq_false_iff_not]; rw [Int.negSucc_eq]; simp; omega
  | negSucc m => cases b with
    | ofNat n => show true = _; symm; rw [decide_eq_true_iff]; rw [Int.negSucc_eq]; simp; omega
    | negSucc n =>
      show Nat.ble (.succ n) m = _
      cases h : Nat.ble (.succ n) m with
      | true => have := ble_true h; symm; rw [decide_eq_true_iff, Int.negSucc_eq, Int.negSucc_eq]; omega
      | false => have := ble_false h; symm; rw [decide_eq_false_iff_not, Int.negSucc_eq, Int.negSucc_eq]; omega

/-! Operators. -/
theorem keq_eq {j k : IntKind} (h : keq j k = true) : j = k := by
  cases j <;> cases k <;> first | rfl | (have := beq_true h; revert this; decide)
theorem binOp_int_ne {op : BinOp} (h1 : op ≠ .shl) (h2 : op ≠ .shr) (t : TypeId) (k : IntKind) (a b : Int) : binOp op t (.int k a) (.int k b) =
    match op with
    | .add | .sub | .mul => Op.intArith op k a b
    | .quo | .rem => Op.intDiv op k a b
    | .and | .or | .xor | .andNot => Op.intBits op k a b
    | _ => Op.intCmp op a b := by
  cases op <;> simp [binOp] at h1 h2 ⊢
theorem not_lt_dec (a b : Int) : (!decide (b < a)) = decide (a ≤ b) := by
  by_cases h : b < a
  · rw [decide_eq_true h, decide_eq_false (by omega)]; rfl
  · rw [decide_eq_false h, decide_eq_true (by omega)]; rfl
theorem wrap_mod (k : IntKind) (x : Nat) : k.wrap ((x % 2 ^ k.bits : Nat) : Int) = k.wrap (x : Int) := by
  unfold IntKind.wrap
  have : (((x % 2 ^ k.bits : Nat) : Int) % (2 ^ k.bits : Int)) = (x : Int) % (2 ^ k.bits : Int) := by
    rw [Int.natCast_emod, Int.natCast_pow]; exact Int.emod_emod_of_dvd _ (Int.dvd_refl _)
  simp only [this]
theorem ofInt_toNat (n m : Nat) : (BitVec.ofInt n (Int.ofNat m)).toNat = m % 2 ^ n := by
  simp
theorem intBin_ok {op : BinOp} {k : IntKind} {a b : Int} {v : AV} (t : TypeId) (h1 : op ≠ .shl) (h2 : op ≠ .shr) (e : intBin op k a b = some v) :
    ∃ u, (binOp op t (.int k a) (.int k b)).run P w = .ok u w ∧ RV ρ v u := by
  cases op
  case add =>
    rw [show intBin .add k a b = mkW k (Int.add a b) from rfl, mkW_eq] at e; cases e
    exact ⟨_, by simp [binOp, Op.intArith], .int _ _⟩
  case sub =>
    rw [show intBin .sub k a b = mkW k (a - b) from rfl, mkW_eq] at e; cases e
    exact ⟨_, by simp [binOp, Op.intArith], .int _ _⟩
  case mul =>
    rw [show intBin .mul k a b = mkW k (Int.mul a b) from rfl, mkW_eq] at e; cases e
    exact ⟨_, by simp [binOp, Op.intArith], .int _ _⟩
  case quo =>
    obtain ⟨hz, e1⟩ := bE_none_eq' (show bE (ieq b (.ofNat .zero)) none (mkW k (a.tdiv b)) = some v from e)
    rw [mkW_eq] at e1; cases e1
    rw [ieq_eq] at hz
    have : b ≠ 0 := by simpa using hz
    exact ⟨_, by simp [binOp, Op.intDiv, this], .int _ _⟩
  case rem =>
    obtain ⟨hz, e1⟩ := bE_none_eq' (show bE (ieq b (.ofNat .zero)) none (mkInt k (a.tmod b)) = some v from e)
    rw [mkInt_eq] at e1; cases e1
    rw [ieq_eq] at hz
    have : b ≠ 0 := by simpa using hz
    exact ⟨_, by simp [binOp, Op.intDiv, this], .int _ _⟩
  case eql => cases e; exact ⟨_, by simp [binOp, Op.intCmp]; rfl, by rw [ieq_eq]; exact .bool _⟩
  case neq => cases e; exact ⟨_, by simp [binOp, Op.intCmp]; rfl, by rw [ieq_eq]; exact .bool _⟩
  case lss => cases e; exact ⟨_, by simp [binOp, Op.intCmp]; rfl, by rw [ilt_eq]; exact .bool _⟩
  case leq => cases e; exact ⟨_, by simp [binOp, Op.intCmp]; rfl, by rw [ilt_eq, not_lt_dec a b]; exact .bool _⟩
  case gtr => cases e; exact ⟨_, by simp [binOp, Op.intCmp]; rfl, by rw [ilt_eq]; exact .bool _⟩
  case geq => cases e; exact ⟨_, by simp [binOp, Op.intCmp]; rfl, by rw [ilt_eq, not_lt_dec b a]; exact .bool _⟩
  case shl => exact absurd rfl h1
  case shr => exact absurd rfl h2
  case andNot => cases e
  case and =>
    cases a with
    | ofNat m => cases b with
      | ofNat n =>
        rw [show intBin .and k (.ofNat m) (.ofNat n) = mkW k (.ofNat (m &&& n)) from rfl, mkW_eq] at e; cases e
        refine ⟨_, by simp only [binOp, ne_eq, not_true_eq_false, if_false, Op.intBits]; rfl, ?_⟩
        rw [BitVec.toNat_and, ofInt_toNat, ofInt_toNat, ← Nat.and_mod_two_pow, wrap_mod]
        exact .int _ _
      | negSucc n => cases e
    | negSucc m => cases e
  case or =>
    cases a with
    | ofNat m => cases b with
      | ofNat n =>
        rw [show intBin .or k (.ofNat m) (.ofNat n) = mkW k (.ofNat (m ||| n)) from rfl, mkW_eq] at e; cases e
        refine ⟨_, by simp only [binOp, ne_eq, not_true_eq_false, if_false, Op.intBits]; rfl, ?_⟩
        rw [BitVec.toNat_or, ofInt_toNat, ofInt_toNat, ← Nat.or_mod_two_pow, wrap_mod]
        exact .int _ _
      | negSucc n => cases e
    | negSucc m => cases e
  case xor =>
    cases a with
    | ofNat m => cases b with
      | ofNat n =>
        rw [show intBin .xor k (.ofNat m) (.ofNat n) = mkW k (.ofNat (m ^^^ n)) from rfl, mkW_eq] at e; cases e
        refine ⟨_, by simp only [binOp, ne_eq, not_true_eq_false, if_false, Op.intBits]; rfl, ?_⟩
        rw [BitVec.toNat_xor, ofInt_toNat, ofInt_toNat, ← Nat.xor_mod_two_pow, wrap_mod]
        exact .int _ _
      | negSucc n => cases e
    | negSucc m => cases e
theorem shift_ok {op : BinOp} {k j : IntKind} {a b : Int} {v : AV} (t : TypeId) (h : op = .shl ∨ op = .shr) (e : intOp op k a j b = some v) :
    ∃ u, (binOp op t (.int k a) (.int j b)).run P w = .ok u w ∧ RV ρ v u := by
  cases b with
  | negSucc n => rcases h with rfl | rfl <;> cases e
  | ofNat n =>
    have hn : ¬ (Int.ofNat n < 0) := by simp
    rcases h with rfl | rfl
    · rw [show intOp .shl k a j (.ofNat n) = mkW k (Int.mul a (.ofNat (2 ^ (min n k.bits)))) from rfl, mkW_eq] at e; cases e
      refine ⟨_, by simp only [binOp, Op.shift, if_neg hn]; rfl, ?_⟩
      rw [show a * (2 : Int) ^ min (Int.ofNat n).toNat k.bits = Int.mul a (.ofNat (2 ^ (min n k.bits))) by
        rw [show (Int.ofNat n).toNat = n from rfl, show (Int.ofNat (2 ^ min n k.bits)) = (2 : Int) ^ (min n k.bits) by simp]; exact rfl]
      exact .int _ _
    · cases a with
      | ofNat m =>
        rw [show intOp .shr k (.ofNat m) j (.ofNat n) = mkInt k (.ofNat (m / 2 ^ (min n k.bits))) from rfl, mkInt_eq] at e; cases e
        refine ⟨_, by simp only [binOp, Op.shift, if_neg hn]; rfl, ?_⟩
        rw [show (Int.ofNat m).fdiv (2 ^ min (Int.ofNat n).toNat k.bits) = .ofNat (m / 2 ^ (min n k.bits)) by
          rw [show (Int.ofNat n).toNat = n from rfl, show (2 : Int) ^ (min n k.bits) = Int.ofNat (2 ^ min n k.bits) by simp]; exact Int.fdiv_eq_ediv_of_nonneg (Int.ofNat m) (Int.natCast_nonneg (2 ^ min n k.bits))]
        exact .int _ _
      | negSucc m =>
        rw [show intOp .shr k (.negSucc m) j (.ofNat n) = mkInt k (.negSucc (m / 2 ^ (min n k.bits))) from rfl, mkInt_eq] at e; cases e
        refine ⟨_, by simp only [binOp, Op.shift, if_neg hn]; rfl, ?_⟩
        rw [show (Int.negSucc m).fdiv (2 ^ min (Int.ofNat n).toNat k.bits) = .negSucc (m / 2 ^ (min n k.bits)) by
          rw [show (Int.ofNat n).toNat = n from rfl, show (2 : Int) ^ (min n k.bits) = Int.ofNat (2 ^ min n k.bits) by simp]
          have : 0 < 2 ^ min n k.bits := Nat.pos_of_ne_zero (by simp)
          obtain ⟨q, hq⟩ : ∃ q, 2 ^ min n k.bits = q + 1 := ⟨2 ^ min n k.bits - 1, by omega⟩
          rw [hq]; rfl]
        exact .int _ _

/-! Strings. -/
theorem seq_iff : ∀ a b : List Nat, seq a b = true ↔ a = b
  | [], [] => by simp [seq, lE]
  | [], _ :: _ => by simp [seq, lE]
  | _ :: _, [] => by simp [seq, lE]
  | x :: a, y :: b => by
    show bE (Nat.beq x y) (seq a b) false = true ↔ _
    cases h : Nat.beq x y with
    | true => rw [bE_true, seq_iff a b, beq_true h]; simp
    | false => rw [bE_false]; have := beq_false h; simp [this]
theorem bytes_inj {s t : ByteArray} (h : bytesOf s = bytesOf t) : s = t := by
  have h1 : s.data.toList = t.data.toList := by
    unfold bytesOf at h
    exact List.map_inj_right (fun a b h => UInt8.toNat_inj.1 h) |>.1 h
  cases s; cases t; congr 1; exact Array.toList_inj.1 h1
theorem toList_data (s : ByteArray) : s.toList = s.data.toList := by
  exact ByteArray.toList_eq s
theorem slt_eq : ∀ a b : List UInt8, slt (a.map (·.toNat)) (b.map (·.toNat)) = Op.bytesLess a b
  | [], [] => rfl
  | [], _ :: _ => rfl
  | _ :: _, [] => rfl
  | x :: a, y :: b => by
    show bE (Nat.ble (.succ x.toNat) y.toNat) true (bE (Nat.beq x.toNat y.toNat) (slt (a.map (·.toNat)) (b.map (·.toNat))) false) = _
    rw [slt_eq a b]
    show _ = (decide (x < y) || (x == y && Op.bytesLess a b))
    cases h : Nat.ble (.succ x.toNat) y.toNat with
    | true =>
      have := ble_true h
      have hlt : x < y := UInt8.lt_iff_toNat_lt.2 this
      simp [bE_true, hlt]
    | false =>
      have := ble_false h
      have hlt : ¬ x < y := fun hh => by have := UInt8.lt_iff_toNat_lt.1 hh; omega
      rw [bE_false]
      cases h2 : Nat.beq x.toNat y.toNat with
      | true =>
        have := UInt8.toNat_inj.1 (beq_true h2)
        subst this
        simp [bE_true]
      | false =>
        have hne : x ≠ y := fun hh => beq_false h2 (by rw [hh])
        simp [bE_false, hlt, hne]
theorem strBin_ok {op : BinOp} {x y : ByteArray} {v : AV} (t : TypeId) (e : strBin op (bytesOf x) (bytesOf y) = some v) :
    ∃ u, (binOp op t (.string x) (.string y)).run P w = .ok u w ∧ RV ρ v u := by
  have hseq : seq (bytesOf x) (bytesOf y) = (x.toList == y.toList) := by
    rw [Bool.eq_iff_iff, seq_iff]
    constructor
    · intro h; rw [bytes_inj h]; simp
    · intro h
      have h' : x.toList = y.toList := by simpa using h
      rw [toList_data, toList_data] at h'
      unfold bytesOf; rw [h']
  have hslt : slt (bytesOf x) (bytesOf y) = Op.bytesLess x.toList y.toList := by rw [toList_data, toList_data]; exact slt_eq _ _
  unfold strBin at e
  rw [hseq, hslt] at e
  cases op
  case add =>
    obtain ⟨h1, e1⟩ := bE_none_eq e
    cases e1
    have h2 := ble_true h1
    rw [len_eq, len_eq, bytesOf_length, bytesOf_length] at h2
    have h3 : x.size + y.size ≤ 1073741824 := h2
    refine ⟨.string (x ++ y), ?_, ?_⟩
    · simp only [binOp, Op.stringOp]
      rw [if_neg (by simp only [IntKind.max, IntKind.signed, IntKind.bits]; simp; omega)]
      rfl
    · have := RV.str (ρ := ρ) (x ++ y)
      rwa [show bytesOf (x ++ y) = bytesOf x ++ bytesOf y by simp [bytesOf]] at this
  all_goals first
    | (cases e; done)
    | (cases e; exact ⟨_, by simp only [binOp, Op.stringOp]; rfl, .bool _⟩)
end
end Go.Ab
namespace Go.Ab
open Go.RowKit (Below)
section
variable {P : Program} {E : Env} {B : Nat} {ρ : Rho} {G : Hp} {w : World}

/-! Equality. -/
theorem beqB_eq (a b : Bool) : beqB a b = (a == b) := by cases a <;> cases b <;> rfl
theorem isNone_some_false {α : Type} (a : α) : (some a).isNone = false := rfl
theorem DR.bool {d : TypeDesc} (h : DR .bool d) : d = .bool := by cases d <;> simp [DR] at h ⊢
theorem DR.str {d : TypeDesc} (h : DR .str d) : d = .string := by cases d <;> simp [DR] at h ⊢
theorem DR.int {k : IntKind} {d : TypeDesc} (h : DR (.int k) d) : d = .int k := by cases d <;> simp [DR] at h ⊢; exact h
theorem DR.ptr {d : TypeDesc} (h : DR .ptr d) : ∃ q, d = .pointer q := by cases d <;> simp [DR] at h ⊢
theorem DR.sl {e : Nat} {d : TypeDesc} (h : DR (.sl e) d) : d = .slice e := by cases d <;> simp [DR] at h ⊢; exact h
theorem DR.arr {n e : Nat} {d : TypeDesc} (h : DR (.arr n e) d) : d = .array n e := by cases d <;> simp [DR] at h ⊢; exact h
theorem DR.map {k e : Nat} {d : TypeDesc} (h : DR (.map k e) d) : d = .map k e := by cases d <;> simp [DR] at h ⊢; exact h
theorem DR.fn {d : TypeDesc} (h : DR .fn d) : ∃ a b c, d = .func a b c := by cases d <;> simp [DR] at h ⊢
set_option maxHeartbeats 2000000 in
theorem eqD_ok {ti : TI} {t : Nat} (ht : TyOK P t ti) {x y : AV} {X Y : Value} {b : Bool} (hx : RV ρ x X) (hy : RV ρ y Y) (e : eqD ti.eq ti.z ti.d x y = some b) (w : World) :
    (Op.equal t X Y).run P w = .ok b w ∧ ((∃ a c, X = .agg a ∧ Y = .agg c) → P.eqGuardType P.depth t = false) ∧ X ≠ .nilIface := by
  obtain ⟨d, hd1, hd2, _, hd3⟩ := ht.und
  unfold eqD at e
  split at e <;> first | (cases e; done) | skip
  all_goals (rename_i hd; rw [hd] at hd2)
  all_goals (obtain ⟨dp, hdp⟩ : ∃ dp, Op.maxDepth = dp + 1 := ⟨9999, rfl⟩)
  case h_1 =>
    obtain rfl := DR.bool hd2
    cases hx; cases hy; cases e
    refine ⟨?_, fun h => ?_, by simp⟩
    · unfold Op.equal; rw [hdp]; simp [Op.equalIn, hd3, beqB_eq]
    · obtain ⟨_, _, h, _⟩ := h; cases h
  case h_2 =>
    obtain ⟨h1, h2⟩ := bE_none_eq e
    cases hx with
    | agg l C hc => cases hy with
      | agg m D hd' =>
        obtain ⟨h3, h4⟩ := bE_none_eq h2
        have := ht.eq h1 ρ _ _ C D b hc hd' h3 h4 w
        exact ⟨this.1, fun _ => this.2, by simp⟩
  case h_3 =>
    obtain ⟨h1, h2⟩ := bE_none_eq e
    cases hx with
    | agg l C hc => cases hy with
      | agg m D hd' =>
        obtain ⟨h3, h4⟩ := bE_none_eq h2
        have := ht.eq h1 ρ _ _ C D b hc hd' h3 h4 w
        exact ⟨this.1, fun _ => this.2, by simp⟩
  all_goals first
    | (obtain ⟨q, rfl⟩ := DR.ptr hd2)
    | (obtain rfl := DR.sl hd2)
    | (obtain rfl := DR.map hd2)
    | (obtain ⟨q, q', q'', rfl⟩ := DR.fn hd2)
  all_goals (cases hx <;> cases hy <;> cases e <;>
    refine ⟨?_, fun h => (by obtain ⟨_, _, h, _⟩ := h; cases h), by simp⟩ <;> (unfold Op.equal; rw [hdp]; simp [Op.equalIn, hd3]))
/-! What is known in part. -/
theorem slt_tri : ∀ a b : List Nat, (slt a b = true ∧ slt b a = false ∧ a ≠ b) ∨ (slt a b = false ∧ slt b a = false ∧ a = b) ∨ (slt a b = false ∧ slt b a = true ∧ a ≠ b)
  | [], [] => .inr (.inl ⟨rfl, rfl, rfl⟩)
  | [], _ :: _ => .inl ⟨rfl, rfl, by simp⟩
  | _ :: _, [] => .inr (.inr ⟨rfl, rfl, by simp⟩)
  | x :: a, y :: b => by
    have e1 : slt (x :: a) (y :: b) = bE (Nat.ble (.succ x) y) true (bE (Nat.beq x y) (slt a b) false) := rfl
    have e2 : slt (y :: b) (x :: a) = bE (Nat.ble (.succ y) x) true (bE (Nat.beq y x) (slt b a) false) := rfl
    rw [e1, e2]
    rcases Nat.lt_trichotomy x y with h | h | h
    · have h1 : Nat.ble (.succ x) y = true := Nat.ble_eq_true_of_le h
      have h2 : Nat.ble (.succ y) x = false := by
        cases hb : Nat.ble (.succ y) x with
        | false => rfl
        | true => have := ble_true hb; omega
      have h3 : Nat.beq y x = false := by
        cases hb : Nat.beq y x with
        | false => rfl
        | true => have := beq_true hb; omega
      rw [h1, h2, h3]
      exact .inl ⟨rfl, rfl, fun e => by cases e; omega⟩
    · subst h
      have h1 : Nat.ble (.succ x) x = false := by
        cases hb : Nat.ble (.succ x) x with
        | false => rfl
        | true => have := ble_true hb; omega
      have h3 : Nat.beq x x = true := Nat.beq_refl x
      rw [h1, h3]
      simp only [bE_false, bE_true]
      rcases slt_tri a b with ⟨k1, k2, k3⟩ | ⟨k1, k2, k3⟩ | ⟨k1, k2, k3⟩
      · exact .inl ⟨k1, k2, fun e => k3 (by cases e; rfl)⟩
      · exact .inr (.inl ⟨k1, k2, by rw [k3]⟩)
      · exact .inr (.inr ⟨k1, k2, fun e => k3 (by cases e; rfl)⟩)
    · have h1 : Nat.ble (.succ y) x = true := Nat.ble_eq_true_of_le h
      have h2 : Nat.ble (.succ x) y = false := by
        cases hb : Nat.ble (.succ x) y with
        | false => rfl
        | true => have := ble_true hb; omega
      have h3 : Nat.beq x y = false := by
        cases hb : Nat.beq x y with
        | false => rfl
        | true => have := beq_true hb; omega
      rw [h1, h2, h3]
      exact .inr (.inr ⟨rfl, rfl, fun e => by cases e; omega⟩)
theorem oE_or_eq {α β : Type} {x : Option α} {n : Option β} {s : α → Option β} {b : β} (h : oE x n s = some b) : (∃ a, x = some a ∧ s a = some b) ∨ n = some b := by
  cases x with
  | none => exact .inr h
  | some a => exact .inl ⟨a, rfl, h⟩
theorem yesNo_eq {a b : Bool} {v : AV} (e : yesNo a b = some v) : (a = true ∧ v = .bool true) ∨ (b = true ∧ v = .bool false) := by
  cases a with
  | true => cases (show some (AV.bool true) = some v from e); exact .inl ⟨rfl, rfl⟩
  | false => cases b with
    | true => cases (show some (AV.bool false) = some v from e); exact .inr ⟨rfl, rfl⟩
    | false => cases e
theorem belowR_ok {lo : Option Int} {n m : Int} (h : belowR lo n = true) (k : ∀ l, lo = some l → l ≤ m) : n < m := by
  cases lo with
  | none => cases h
  | some l => have h1 : ilt n l = true := h; rw [ilt_eq, decide_eq_true_eq] at h1; have := k l rfl; omega
theorem aboveR_ok {hi : Option Int} {n m : Int} (h : aboveR hi n = true) (k : ∀ l, hi = some l → m ≤ l) : m < n := by
  cases hi with
  | none => cases h
  | some l => have h1 : ilt l n = true := h; rw [ilt_eq, decide_eq_true_eq] at h1; have := k l rfl; omega
theorem atLo_ok {lo : Option Int} {n m : Int} (h : atLo lo n = true) (k : ∀ l, lo = some l → l ≤ m) : n ≤ m := by
  cases lo with
  | none => cases h
  | some l => have h1 : (!ilt l n) = true := h; rw [ilt_eq, Bool.not_eq_true', decide_eq_false_iff_not] at h1; have := k l rfl; omega
theorem atHi_ok {hi : Option Int} {n m : Int} (h : atHi hi n = true) (k : ∀ l, hi = some l → m ≤ l) : m ≤ n := by
  cases hi with
  | none => cases h
  | some l => have h1 : (!ilt n l) = true := h; rw [ilt_eq, Bool.not_eq_true', decide_eq_false_iff_not] at h1; have := k l rfl; omega
theorem rngC_ok {op : BinOp} {lo hi : Option Int} {n m : Int} {v : AV} (e : rngC op lo hi n = some v) (hl : ∀ l, lo = some l → l ≤ m) (hh : ∀ h, hi = some h → m ≤ h) :
    op ≠ .shl ∧ op ≠ .shr ∧ ∀ k, intBin op k m n = some v ∧ intBin (flipC op) k n m = some v := by
  unfold rngC at e
  split at e <;> first | (cases e; done) | skip
  all_goals (refine ⟨by simp, by simp, fun k => ?_⟩)
  all_goals (simp only [intBin, flipC, ieq_eq, ilt_eq])
  · rcases yesNo_eq e with ⟨h, rfl⟩ | ⟨h, rfl⟩
    · cases h
    · have : m ≠ n := by
        rcases Bool.or_eq_true _ _ ▸ h with h | h
        · have := belowR_ok h hl; omega
        · have := aboveR_ok h hh; omega
      simp [this, Ne.symm this]
  · rcases yesNo_eq e with ⟨h, rfl⟩ | ⟨h, rfl⟩
    · have : m ≠ n := by
        rcases Bool.or_eq_true _ _ ▸ h with h | h
        · have := belowR_ok h hl; omega
        · have := aboveR_ok h hh; omega
      simp [this, Ne.symm this]
    · cases h
  · rcases yesNo_eq e with ⟨h, rfl⟩ | ⟨h, rfl⟩
    · have := aboveR_ok h hh; simp; omega
    · have := atLo_ok h hl; simp; omega
  · rcases yesNo_eq e with ⟨h, rfl⟩ | ⟨h, rfl⟩
    · have := atHi_ok h hh; simp; omega
    · have := belowR_ok h hl; simp; omega
  · rcases yesNo_eq e with ⟨h, rfl⟩ | ⟨h, rfl⟩
    · have := belowR_ok h hl; simp; omega
    · have := atHi_ok h hh; simp; omega
  · rcases yesNo_eq e with ⟨h, rfl⟩ | ⟨h, rfl⟩
    · have := atLo_ok h hl; simp; omega
    · have := aboveR_ok h hh; simp; omega
theorem flipC_flipC (op : BinOp) : flipC (flipC op) = op := by cases op <;> rfl
theorem memS_ok (c : List Nat) : ∀ {l : List (List Nat)}, memS c l = true → c ∈ l
  | [], h => by cases h
  | x :: l, h => by
    have h1 : bE (seq x c) true (memS c l) = true := h
    cases hx : seq x c with
    | true => have := (seq_iff x c).1 hx; subst this; simp
    | false => rw [hx, bE_false] at h1; simp [memS_ok c h1]
theorem snotC_ok {op : BinOp} {ne : List (List Nat)} {c a : List Nat} {v : AV} (e : snotC op ne c = some v) (h : ∀ x ∈ ne, a ≠ x) : strBin op a c = some v ∧ strBin op c a = some v := by
  have fin : memS c ne = true → seq a c = false ∧ seq c a = false := fun hm => by
    have := h c (memS_ok c hm)
    constructor
    · cases hs : seq a c with
      | false => rfl
      | true => exact absurd ((seq_iff _ _).1 hs) this
    · cases hs : seq c a with
      | false => rfl
      | true => exact absurd ((seq_iff _ _).1 hs).symm this
  unfold snotC at e
  split at e <;> first | (cases e; done) | skip
  · rcases yesNo_eq e with ⟨h1, rfl⟩ | ⟨h1, rfl⟩
    · cases h1
    · simp [strBin, fin h1]
  · rcases yesNo_eq e with ⟨h1, rfl⟩ | ⟨h1, rfl⟩
    · simp [strBin, fin h1]
    · cases h1
theorem cmpV_symm {u p : Value} {q : Int} (h : cmpV u p = some q) : cmpV p u = some (Int.neg q) := by
  unfold cmpV at h
  split at h
  · next j a k b =>
    split at h
    · next hjk =>
      subst hjk
      have h5 := Option.some.inj h
      show (if j = j then some (if b < a then (-1 : Int) else if b = a then 0 else 1) else none) = _
      rw [if_pos rfl]
      congr 1
      rcases Int.lt_trichotomy a b with h6 | h6 | h6
      · rw [if_pos h6] at h5; subst h5; rw [if_neg (by omega), if_neg (by omega)]; rfl
      · subst h6; rw [if_neg (by omega), if_pos rfl] at h5; subst h5; rw [if_neg (by omega), if_pos rfl]; rfl
      · rw [if_neg (by omega), if_neg (by omega)] at h5; subst h5; rw [if_pos h6]; rfl
    · cases h
  · next a b =>
    have h5 := Option.some.inj h
    show some (if slt (bytesOf b) (bytesOf a) = true then (-1 : Int) else if bytesOf b = bytesOf a then 0 else 1) = _
    congr 1
    rcases slt_tri (bytesOf a) (bytesOf b) with ⟨k1, k2, k3⟩ | ⟨k1, k2, k3⟩ | ⟨k1, k2, k3⟩
    · rw [if_pos k1] at h5; subst h5; rw [if_neg (by rw [k2]; simp), if_neg (Ne.symm k3)]; rfl
    · rw [if_neg (by rw [k1]; simp), if_pos k3] at h5; subst h5; rw [if_neg (by rw [k2]; simp), if_pos k3.symm]; rfl
    · rw [if_neg (by rw [k1]; simp), if_neg k3] at h5; subst h5; rw [if_pos k2]; rfl
  · cases h
theorem ordS_ok {v u p : Value} {r q s : Int} (h1 : cmpV v p = some r) (h2 : cmpV u p = some q) (h3 : ordS r q = some s) : cmpV v u = some s := by
  have hp : q = 0 → p = u := by
    intro h0
    subst h0
    unfold cmpV at h2
    split at h2
    · split at h2
      · next h =>
        subst h
        split at h2
        · cases h2
        · split at h2
          · next h => subst h; rfl
          · cases h2
      · cases h2
    · split at h2
      · cases h2
      · split at h2
        · next h => rw [bytes_inj h]
        · cases h2
    · cases h2
  have hv : r = 0 → p = v := by
    intro h0
    subst h0
    unfold cmpV at h1
    split at h1
    · split at h1
      · next h =>
        subst h
        split at h1
        · cases h1
        · split at h1
          · next h => subst h; rfl
          · cases h1
      · cases h1
    · split at h1
      · cases h1
      · split at h1
        · next h => rw [bytes_inj h]
        · cases h1
    · cases h1
  unfold ordS at h3
  rw [ieq_eq, ieq_eq] at h3
  by_cases hq : q = 0
  · subst hq
    cases (show some r = some s from h3)
    rw [← hp rfl]; exact h1
  · have hq' : (q == Int.ofNat Nat.zero) = false := by simpa using hq
    rw [hq', bE_false] at h3
    obtain ⟨hr, h4⟩ := bE_none_eq h3
    have hr0 : r = 0 := by simpa using hr
    cases h4
    rw [← hv hr0]
    exact cmpV_symm h2
/-- three truths of an order, of which one holds -/
def tri3 (s : Int) (lt eq gt : Bool) : Prop := (s = -1 ∧ lt = true ∧ eq = false ∧ gt = false) ∨ (s = 0 ∧ lt = false ∧ eq = true ∧ gt = false) ∨ (s = 1 ∧ lt = false ∧ eq = false ∧ gt = true)
theorem ordC_tri {op : BinOp} {s : Int} {lt eq gt : Bool} {v : AV} (h : tri3 s lt eq gt) (e : ordC op s = some v) :
    (op = .eql ∧ v = .bool eq) ∨ (op = .neq ∧ v = .bool (!eq)) ∨ (op = .lss ∧ v = .bool lt) ∨ (op = .leq ∧ v = .bool (!gt)) ∨ (op = .gtr ∧ v = .bool gt) ∨ (op = .geq ∧ v = .bool (!lt)) := by
  rcases h with ⟨rfl, rfl, rfl, rfl⟩ | ⟨rfl, rfl, rfl, rfl⟩ | ⟨rfl, rfl, rfl, rfl⟩ <;> cases op <;> cases e <;> simp <;> rfl
theorem ordC_int {op : BinOp} {k : IntKind} {a b : Int} {v : AV} (e : ordC op (if a < b then -1 else if a = b then 0 else 1) = some v) : op ≠ .shl ∧ op ≠ .shr ∧ intBin op k a b = some v := by
  have h : tri3 (if a < b then -1 else if a = b then 0 else 1) (decide (a < b)) (a == b) (decide (b < a)) := by
    rcases Int.lt_trichotomy a b with h | h | h
    · exact .inl ⟨by simp [h], by simp [h], by simp; omega, by simp; omega⟩
    · exact .inr (.inl ⟨by simp [h], by simp [h], by simp [h], by simp [h]⟩)
    · exact .inr (.inr ⟨by rw [if_neg (by omega), if_neg (by omega)], by simp; omega, by simp; omega, by simp [h]⟩)
  rcases ordC_tri h e with ⟨rfl, rfl⟩ | ⟨rfl, rfl⟩ | ⟨rfl, rfl⟩ | ⟨rfl, rfl⟩ | ⟨rfl, rfl⟩ | ⟨rfl, rfl⟩ <;> exact ⟨by simp, by simp, by simp only [intBin, ieq_eq, ilt_eq]⟩
theorem ordC_str {op : BinOp} {a b : List Nat} {v : AV} (e : ordC op (if slt a b = true then -1 else if a = b then 0 else 1) = some v) : strBin op a b = some v := by
  have hs : a ≠ b → seq a b = false := fun h => by
    cases hq : seq a b with
    | false => rfl
    | true => exact absurd ((seq_iff _ _).1 hq) h
  have h : tri3 (if slt a b = true then -1 else if a = b then 0 else 1) (slt a b) (seq a b) (slt b a) := by
    rcases slt_tri a b with ⟨k1, k2, k3⟩ | ⟨k1, k2, k3⟩ | ⟨k1, k2, k3⟩
    · exact .inl ⟨by rw [if_pos k1], k1, hs k3, k2⟩
    · exact .inr (.inl ⟨by rw [if_neg (by rw [k1]; simp), if_pos k3], k1, (seq_iff _ _).2 k3, k2⟩)
    · exact .inr (.inr ⟨by rw [if_neg (by rw [k1]; simp), if_neg k3], k1, hs k3, k2⟩)
  rcases ordC_tri h e with ⟨rfl, rfl⟩ | ⟨rfl, rfl⟩ | ⟨rfl, rfl⟩ | ⟨rfl, rfl⟩ | ⟨rfl, rfl⟩ | ⟨rfl, rfl⟩
  · rfl
  · rfl
  · rfl
  · rcases slt_tri a b with ⟨k1, k2, k3⟩ | ⟨k1, k2, k3⟩ | ⟨k1, k2, k3⟩
    · simp [strBin, k1, k2]
    · simp [strBin, k2, (seq_iff a b).2 k3]
    · simp [strBin, k1, k2, hs k3]
  · rcases slt_tri a b with ⟨k1, k2, k3⟩ | ⟨k1, k2, k3⟩ | ⟨k1, k2, k3⟩
    · simp [strBin, k1, k2]
    · simp [strBin, k2, (seq_iff a b).2 k3]
    · simp [strBin, k1, k2, hs k3]
  · rfl
/-- one value says all that the other says -/
def Imp (v' v : AV) : Prop := ∀ (ρ : Rho) (u : Value), RV ρ v' u → RV ρ v u
theorem Imp.refl (v : AV) : Imp v v := fun _ _ h => h
theorem isAdd_eq {op : BinOp} (h : isAdd op = true) : op = .add := by cases op <;> first | rfl | cases h
theorem inR_ok {a : Int} (h : inR a = true) : -4611686018427387905 < a ∧ a < 4611686018427387904 := by
  unfold inR at h
  rw [ilt_eq, ilt_eq, Bool.and_eq_true, decide_eq_true_eq, decide_eq_true_eq] at h
  exact ⟨h.1, h.2⟩
theorem wrap_i64 {a : Int} (h1 : -9223372036854775808 ≤ a) (h2 : a ≤ 9223372036854775807) : IntKind.i64.wrap a = a := by
  simp [IntKind.wrap, IntKind.signed, IntKind.bits]
  omega
theorem rng_mk {ρ : Rho} {k : IntKind} {l h n : Int} (h1 : l ≤ n) (h2 : n ≤ h) : RV ρ (.rng k (some l) (some h)) (.int k n) := .rng _ _ _ _ (fun x hx => by cases hx; exact h1) (fun x hx => by cases hx; exact h2)
theorem rAdd_ok {lo hi : Option Int} {a b p q : Int} {v : AV} (hl : ∀ l, lo = some l → l ≤ p) (hh : ∀ h, hi = some h → p ≤ h) (hq1 : a ≤ q) (hq2 : q ≤ b) (e : rAdd lo hi a b = some v) : ∃ v', intBin .add .i64 p q = some v' ∧ Imp v' v := by
  obtain ⟨l, h1, e1⟩ := oE_none_eq e
  obtain ⟨h, h2, e2⟩ := oE_none_eq e1
  obtain ⟨h3, e3⟩ := bE_none_eq e2
  cases e3
  rw [Bool.and_eq_true] at h3
  have h4 : -4611686018427387905 < l + a ∧ l + a < 4611686018427387904 := inR_ok h3.1
  have h5 : -4611686018427387905 < h + b ∧ h + b < 4611686018427387904 := inR_ok h3.2
  have h6 := hl l h1
  have h7 := hh h h2
  refine ⟨.int .i64 (p + q), ?_, fun ρ u hu => ?_⟩
  · show mkW .i64 (p + q) = _
    rw [mkW_eq, wrap_i64 (by omega) (by omega)]
  · cases hu
    exact rng_mk (show l + a ≤ p + q by omega) (show p + q ≤ h + b by omega)
theorem rngA_ok {op : BinOp} {lo hi : Option Int} {p n : Int} {v : AV} (hl : ∀ l, lo = some l → l ≤ p) (hh : ∀ h, hi = some h → p ≤ h) (e : rngA op lo hi n = some v) : ∃ v', op ≠ .shl ∧ op ≠ .shr ∧ intBin op .i64 p n = some v' ∧ Imp v' v := by
  unfold rngA at e
  split at e
  · obtain ⟨v', h1, h2⟩ := rAdd_ok (q := n) hl hh (Int.le_refl _) (Int.le_refl _) e
    exact ⟨v', by simp, by simp, h1, h2⟩
  · obtain ⟨v', h1, h2⟩ := rAdd_ok (q := -n) hl hh (Int.le_refl _) (Int.le_refl _) e
    refine ⟨v', by simp, by simp, ?_, h2⟩
    rw [← h1]
    show mkW .i64 (Int.sub p n) = mkW .i64 (Int.add p (-n))
    rw [show Int.sub p n = Int.add p (-n) from Int.sub_eq_add_neg]
  · cases n with
    | negSucc d => cases e
    | ofNat d =>
      cases d with
      | zero => cases e
      | succ d =>
        obtain ⟨l, h1, e1⟩ := oE_none_eq (show oE lo none (fun l => bE (ilt l (.ofNat .zero)) none (some (.rng .i64 (some (.ofNat .zero)) (some (.ofNat d))))) = some v from e)
        obtain ⟨h2, e2⟩ := bE_none_eq' e1
        cases e2
        rw [ilt_eq, decide_eq_false_iff_not] at h2
        have h3 := hl l h1
        have h4 : (0 : Int) ≤ p := by
          have : ¬ l < 0 := h2
          omega
        obtain ⟨q, rfl⟩ : ∃ q : Nat, p = q := ⟨p.toNat, by omega⟩
        refine ⟨.int .i64 (((q % (d + 1) : Nat)) : Int), by simp, by simp, ?_, fun ρ u hu => ?_⟩
        · show remI .i64 (q : Int) (Int.ofNat (d + 1)) = _
          unfold remI
          rw [ieq_eq, show ((Int.ofNat (d + 1)) == Int.ofNat Nat.zero) = false from by simp; omega, bE_false, mkInt_eq]
          rfl
        · cases hu
          have := Nat.mod_lt q (show 0 < d + 1 by omega)
          exact rng_mk (show (0 : Int) ≤ _ by omega) (show ((q % (d + 1) : Nat) : Int) ≤ (d : Int) by omega)
  · cases e
theorem congC_ok {op : BinOp} {m r p : Nat} {n : Int} {v : AV} (hp : p % m = r) (e : congC op m r n = some v) : ∃ v', op ≠ .shl ∧ op ≠ .shr ∧ intBin op .i64 (p : Int) n = some v' ∧ Imp v' v := by
  unfold congC at e
  split at e
  · cases n with
    | negSucc d => cases e
    | ofNat d =>
      cases d with
      | zero => cases e
      | succ d =>
        have e1 : bE (Nat.beq (Nat.mod m (d + 1)) .zero) (fN (Nat.mod r (d + 1)) (fun q => some (AV.int .i64 (.ofNat q)))) (some (.rng .i64 (some (.ofNat .zero)) (some (.ofNat d)))) = some v := e
        refine ⟨.int .i64 (((p % (d + 1) : Nat)) : Int), by simp, by simp, ?_, fun ρ u hu => ?_⟩
        · show remI .i64 (p : Int) (Int.ofNat (d + 1)) = _
          unfold remI
          rw [ieq_eq, show ((Int.ofNat (d + 1)) == Int.ofNat Nat.zero) = false from by simp; omega, bE_false, mkInt_eq]
          rfl
        · cases hu
          cases hb : Nat.beq (Nat.mod m (d + 1)) .zero with
          | true =>
            rw [hb, bE_true, fN_eq] at e1
            cases e1
            have h1 : m % (d + 1) = 0 := beq_true hb
            have h2 : p % (d + 1) = r % (d + 1) := by rw [← hp, Nat.mod_mod_of_dvd _ (Nat.dvd_of_mod_eq_zero h1)]
            rw [h2]
            exact .int _ _
          | false =>
            rw [hb, bE_false] at e1
            cases e1
            have := Nat.mod_lt p (show 0 < d + 1 by omega)
            exact rng_mk (show (0 : Int) ≤ _ by omega) (show ((p % (d + 1) : Nat) : Int) ≤ (d : Int) by omega)
  · cases e
/-- the two operands, as they would be evaluated if they were known whole -/
theorem binX_ok {op : BinOp} {x y v : AV} {X Y : Value} (hx : RV ρ x X) (hy : RV ρ y Y) (e : binX op x y = some v) :
    (∃ k a b v', X = .int k a ∧ Y = .int k b ∧ op ≠ .shl ∧ op ≠ .shr ∧ intBin op k a b = some v' ∧ Imp v' v) ∨ (∃ a b, X = .string a ∧ Y = .string b ∧ strBin op (bytesOf a) (bytesOf b) = some v) := by
  unfold binX at e
  split at e
  · next m r j n =>
    obtain ⟨h1, e1⟩ := bE_none_eq e
    obtain rfl := keq_eq h1
    cases hy
    cases hx with
    | cong m r n' h3 h4 =>
      obtain ⟨v', h5, h6, h7, h8⟩ := congC_ok h4 e1
      exact .inl ⟨_, _, _, v', rfl, rfl, h5, h6, h7, h8⟩
  · next k a b j c d =>
    obtain ⟨h1, e1⟩ := bE_none_eq e
    rw [Bool.and_eq_true, Bool.and_eq_true] at h1
    obtain rfl := keq_eq h1.1.1
    obtain rfl := keq_eq h1.1.2
    obtain rfl := isAdd_eq h1.2
    obtain ⟨c, hc, e2⟩ := oE_none_eq e1
    obtain ⟨d, hd, e3⟩ := oE_none_eq e2
    cases hx with
    | rng _ _ _ p hl hh => cases hy with
      | rng _ _ _ q hl' hh' =>
        obtain ⟨v', h7, h8⟩ := rAdd_ok (p := p) (q := q) hl hh (hl' c hc) (hh' d hd) e3
        exact .inl ⟨_, _, _, v', rfl, rfl, by simp, by simp, h7, h8⟩
  · next i r j q =>
    obtain ⟨h1, e1⟩ := bE_none_eq e
    obtain rfl := beq_true h1
    obtain ⟨s, hs, e2⟩ := oE_none_eq e1
    cases hx with
    | ordv i r L X hL hc => cases hy with
      | ordv i q M Y hM hd =>
        rw [hL] at hM; cases hM
        have h3 := ordS_ok hc hd hs
        unfold cmpV at h3
        split at h3
        · split at h3
          · next h =>
            subst h
            cases h3
            obtain ⟨h4, h5, h6⟩ := ordC_int e2
            exact .inl ⟨_, _, _, _, rfl, rfl, h4, h5, h6, Imp.refl _⟩
          · cases h3
        · cases h3
          exact .inr ⟨_, _, rfl, rfl, ordC_str e2⟩
        · cases h3
  · obtain ⟨h1, e1⟩ := bE_none_eq e
    obtain rfl := keq_eq h1
    cases hy
    cases hx with
    | rng k lo hi n hl hh =>
      rcases oE_or_eq e1 with ⟨v1, h0, h9⟩ | h0
      · cases h9
        obtain ⟨h2, h3, h4⟩ := rngC_ok h0 hl hh
        exact .inl ⟨_, _, _, _, rfl, rfl, h2, h3, (h4 _).1, Imp.refl _⟩
      · obtain ⟨hk, e2⟩ := bE_none_eq h0
        obtain rfl := keq_eq hk
        obtain ⟨v', h5, h6, h7, h8⟩ := rngA_ok (p := n) hl hh e2
        exact .inl ⟨_, _, _, v', rfl, rfl, h5, h6, h7, h8⟩
  · obtain ⟨h1, e1⟩ := bE_none_eq e
    obtain rfl := keq_eq h1
    cases hx
    cases hy with
    | rng k lo hi n hl hh =>
      rcases oE_or_eq e1 with ⟨v1, h0, h9⟩ | h0
      · cases h9
        obtain ⟨h2, h3, h4⟩ := rngC_ok h0 hl hh
        rw [flipC_flipC] at h4
        refine .inl ⟨_, _, _, _, rfl, rfl, fun h => ?_, fun h => ?_, (h4 _).2, Imp.refl _⟩
        · subst h; exact h2 rfl
        · subst h; exact h3 rfl
      · obtain ⟨hk, e2⟩ := bE_none_eq h0
        rw [Bool.and_eq_true] at hk
        obtain rfl := keq_eq hk.1
        obtain rfl := isAdd_eq hk.2
        obtain ⟨v', h7, h8⟩ := rAdd_ok (p := n) (q := _) hl hh (Int.le_refl _) (Int.le_refl _) e2
        refine .inl ⟨_, _, _, v', rfl, rfl, by simp, by simp, ?_, h8⟩
        rw [← h7]
        show mkW .i64 (Int.add _ _) = mkW .i64 (Int.add _ _)
        rw [show ∀ a b : Int, Int.add a b = Int.add b a from Int.add_comm]
  · cases hy
    cases hx with
    | snot ne lo hi s hn _ _ => exact .inr ⟨_, _, rfl, rfl, (snotC_ok e hn).1⟩
  · cases hx
    cases hy with
    | snot ne lo hi s hn _ _ => exact .inr ⟨_, _, rfl, rfl, (snotC_ok e hn).2⟩
  · cases e
theorem bin_ok (hE : EnvOK P E) {op : BinOp} {t : Nat} {xo yo : Operand} {x y v : AV} {X Y : Value} (hx : RV ρ x X) (hy : RV ρ y Y) (e : bin E op t x y = some v) :
    ∃ u, (do eqGuard op t xo yo X Y; binOp op t X Y : Sem Value).run P w = .ok u w ∧ RV ρ v u := by
  have noG : ∀ (X Y : Value), (¬ ∃ a c, X = .agg a ∧ Y = .agg c) → X ≠ .nilIface → (eqGuard op t xo yo X Y).run P w = .ok () w := by
    intro X Y h1 h2
    unfold eqGuard
    cases op <;> first
      | rfl
      | (simp only [Bool.not_true, Bool.false_eq_true, if_false]
         split
         · exact absurd rfl h2
         · exact absurd ⟨_, _, rfl, rfl⟩ h1
         · rfl)
  have viaX : binX op x y = some v → ∃ u, (do eqGuard op t xo yo X Y; binOp op t X Y : Sem Value).run P w = .ok u w ∧ RV ρ v u := by
    intro e
    rcases binX_ok hx hy e with ⟨k, a, b, v', rfl, rfl, h2, h3, h4, h5⟩ | ⟨a, b, rfl, rfl, h4⟩
    · have hg := noG (.int k a) (.int k b) (fun h => by obtain ⟨_, _, h, _⟩ := h; cases h) (by simp)
      simp only [Sem.run_bind, hg, Result.andThen_ok]
      obtain ⟨u, h6, h7⟩ := intBin_ok (P := P) (w := w) (ρ := ρ) t h2 h3 h4
      exact ⟨u, h6, h5 _ _ h7⟩
    · have hg := noG (.string a) (.string b) (fun h => by obtain ⟨_, _, h, _⟩ := h; cases h) (by simp)
      simp only [Sem.run_bind, hg, Result.andThen_ok]
      exact strBin_ok t h4
  unfold bin at e
  cases hxi : asInt x with
  | some p =>
    obtain ⟨k, a⟩ := p
    obtain rfl := asInt_eq hxi
    rw [hxi, oE_some] at e
    obtain ⟨⟨j, b⟩, hyi, e1⟩ | e1 := oE_or_eq e
    case inr => exact viaX e1
    obtain rfl := asInt_eq hyi
    rw [pE_mk, pE_mk] at e1
    cases hx; cases hy
    have hg := noG (.int k a) (.int j b) (fun h => by obtain ⟨_, _, h, _⟩ := h; cases h) (by simp)
    simp only [Sem.run_bind, hg, Result.andThen_ok]
    by_cases h1 : op = .shl ∨ op = .shr
    · exact shift_ok t h1 e1
    · have h2 : op ≠ .shl := fun h => h1 (.inl h)
      have h3 : op ≠ .shr := fun h => h1 (.inr h)
      have e2 : bE (keq k j) (intBin op k a b) none = some v := by
        cases op <;> first | exact e1 | exact absurd rfl h2 | exact absurd rfl h3
      obtain ⟨h4, e3⟩ := bE_none_eq e2
      obtain rfl := keq_eq h4
      exact intBin_ok t h2 h3 e3
  | none =>
    rw [hxi, oE_none] at e
    unfold binS at e
    cases hxs : asStr x with
    | some l =>
      obtain rfl := asStr_eq hxs
      rw [hxs, oE_some] at e
      obtain ⟨m, hys, e1⟩ | e1 := oE_or_eq e
      case inr => exact viaX e1
      obtain rfl := asStr_eq hys
      cases hx with
      | str s => cases hy with
        | str s' =>
          have hg := noG (.string s) (.string s') (fun h => by obtain ⟨_, _, h, _⟩ := h; cases h) (by simp)
          simp only [Sem.run_bind, hg, Result.andThen_ok]
          exact strBin_ok t e1
    | none =>
      rw [hxs, oE_none] at e
      obtain ⟨v', hv', e1⟩ | e1 := oE_or_eq (show oE (binV E op t x y) (binX op x y) some = some v from e)
      case inr => exact viaX e1
      cases e1
      replace e := hv'
      have main : ∀ b, eqv E t x y = some b → (op = .eql ∨ op = .neq) → (Op.equal t X Y).run P w = .ok b w ∧ (eqGuard op t xo yo X Y).run P w = .ok () w := by
        intro b hb hop
        obtain ⟨ti, ht, e1⟩ := oE_none_eq hb
        obtain ⟨h1, h2, h3⟩ := eqD_ok (hE.ty _ _ ht) hx hy e1 w
        refine ⟨h1, ?_⟩
        by_cases hagg : ∃ a c, X = .agg a ∧ Y = .agg c
        · have := h2 hagg
          obtain ⟨a, c, rfl, rfl⟩ := hagg
          unfold eqGuard
          rcases hop with rfl | rfl <;> simp [this]
        · exact noG X Y hagg h3
      have shape : ∀ b, eqv E t x y = some b → binOp .eql t X Y = (do Pure.pure (.bool (← Op.equal t X Y))) ∧ binOp .neq t X Y = (do Pure.pure (.bool (!(← Op.equal t X Y)))) := by
        intro b hb
        obtain ⟨ti, ht, e1⟩ := oE_none_eq hb
        unfold eqD at e1
        split at e1 <;> first | (cases e1; done) | skip
        all_goals (cases hx <;> cases hy <;> exact ⟨rfl, rfl⟩)
      unfold binV at e
      split at e
      · obtain ⟨b, hb, e1⟩ := oE_none_eq e
        cases e1
        obtain ⟨h1, h2⟩ := main b hb (.inl rfl)
        exact ⟨.bool b, by simp only [Sem.run_bind, h2, Result.andThen_ok, (shape b hb).1, h1]; rfl, .bool b⟩
      · obtain ⟨b, hb, e1⟩ := oE_none_eq e
        cases e1
        obtain ⟨h1, h2⟩ := main b hb (.inr rfl)
        exact ⟨.bool (!b), by simp only [Sem.run_bind, h2, Result.andThen_ok, (shape b hb).2, h1]; rfl, .bool _⟩
      · cases e
theorem un_ok {op : UnOp} {x v : AV} {X : Value} (hx : RV ρ x X) (e : un op x = some v) : ∃ u, (Op.unary op X).run P w = .ok u w ∧ RV ρ v u := by
  unfold un at e
  split at e
  · cases hx; cases e; exact ⟨_, rfl, .bool _⟩
  · cases hx
    rw [mkW_eq] at e; cases e
    exact ⟨_, rfl, .int _ _⟩
  · cases e
end
end Go.Ab
