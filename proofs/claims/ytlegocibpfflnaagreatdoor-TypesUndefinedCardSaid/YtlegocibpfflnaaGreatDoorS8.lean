/- A part of an evaluator of the program's operations over values that are known whole or in part, and of the proof that what it answers holds of the program's run. No condition. -/
import Derived.Test.YtlegocibpfflnaaGreatDoorS7
namespace Go.Ab
open Go.RowKit (Below)
section
variable {P : Program} {E : Env} {B : Nat} {ρ : Rho} {G : Hp} {w : World}

/-! Numbers. -/
theorem iE_eq {β : Type} (n : Int) (f g : Nat → β) : iE n f g = match n with | .ofNat m => f m | .negSucc m => g m := by cases n <;> rfl
theorem mkInt_eq (k : IntKind) (n : Int) : mkInt k n = some (.int k n) := by
  cases n with
  | ofNat m => cases m <;> rfl
  | negSucc m => cases m <;> rfl
theorem wrap_top (k : IntKind) (m : Nat) (h : m < top k) : k.wrap (.ofNat m) = .ofNat m := by
  cases k <;> simp [top, IntKind.wrap, IntKind.bits, IntKind.signed] at h ⊢ <;> omega
theorem wrap_bot (k : IntKind) (m : Nat) (h : m < bot k) : k.wrap (.negSucc m) = .negSucc m := by
  rw [Int.negSucc_eq]
  have h2 : (m : Int) < bot k := by exact_mod_cast h
  have h4 : 0 ≤ (m : Int) := Int.natCast_nonneg m
  generalize (m : Int) = z at h2 h4 ⊢
  clear h
  cases k
  · have h3 : z < 128 := h2
    simp only [IntKind.wrap, IntKind.bits, IntKind.signed, Bool.true_and, decide_eq_true_eq, show (2 : Int) ^ 8 = 256 from rfl, show (2 : Int) ^ (8 - 1) = 128 from rfl]
    split <;> omega
  · have h3 : z < 32768 := h2
    simp only [IntKind.wrap, IntKind.bits, IntKind.signed, Bool.true_and, decide_eq_true_eq, show (2 : Int) ^ 16 = 65536 from rfl, show (2 : Int) ^ (16 - 1) = 32768 from rfl]
    split <;> omega
  · have h3 : z < 2147483648 := h2
    simp only [IntKind.wrap, IntKind.bits, IntKind.signed, Bool.true_and, decide_eq_true_eq, show (2 : Int) ^ 32 = 4294967296 from rfl, show (2 : Int) ^ (32 - 1) = 2147483648 from rfl]
    split <;> omega
  · have h3 : z < 9223372036854775808 := h2
    simp only [IntKind.wrap, IntKind.bits, IntKind.signed, Bool.true_and, decide_eq_true_eq, show (2 : Int) ^ 64 = 18446744073709551616 from rfl, show (2 : Int) ^ (64 - 1) = 9223372036854775808 from rfl]
    split <;> omega
  all_goals (have h3 : z < 0 := h2; omega)
theorem mkW_eq (k : IntKind) (n : Int) : mkW k n = some (.int k (k.wrap n)) := by
  cases n with
  | ofNat m =>
    show bE (Nat.ble (.succ m) (top k)) _ (mkInt k (k.wrap (.ofNat m))) = _
    cases h : Nat.ble (.succ m) (top k) with
    | false => rw [bE_false, mkInt_eq]
    | true => rw [bE_true, wrap_top k m (ble_true h)]; cases m <;> rfl
  | negSucc m =>
    show bE (Nat.ble (.succ m) (bot k)) _ (mkInt k (k.wrap (.negSucc m))) = _
    cases h : Nat.ble (.succ m) (bot k) with
    | false => rw [bE_false, mkInt_eq]
    | true => rw [bE_true, wrap_bot k m (ble_true h)]; cases m <;> rfl
theorem ieq_eq (a b : Int) : ieq a b = (a == b) := by
  cases a with
  | ofNat m => cases b with
    | ofNat n =>
      show Nat.beq m n = _
      cases h : Nat.beq m n with
      | true => rw [beq_true h]; simp
      | false => have := beq_false h; simp; omega
    | negSucc n => show false = _; simp
  | negSucc m => cases b with
    | ofNat n => show false = _; simp
    | negSucc n =>
      show Nat.beq m n = _
      cases h : Nat.beq m n with
      | true => rw [beq_true h]; simp
      | false => have := beq_false h; simp; omega
theorem ilt_eq (a b : Int) : ilt a b = decide (a < b) := by
  cases a with
  | ofNat m => cases b with
    | ofNat n =>
      show Nat.ble (.succ m) n = _
      cases h : Nat.ble (.succ m) n with
      | true => have := ble_true h; symm; rw [decide_eq_true_iff]; simp; omega
      | false => have := ble_false h; symm; rw [decide_eq_false_iff_not]; simp; omega
    | negSucc n => show false = _; symm; rw [decide_eq_false_iff_not]; rw [Int.negSucc_eq]; simp; omega
  | negSucc m => cases b with
    | ofNat n => show true = _; symm; rw [decide_eq_true_iff]; rw [Int.negSucc_eq]; simp; omega
    | negSucc n =>
      show Nat.ble (.succ n) m = _
      cases h : Nat.ble (.succ n) m with
      | true => have := ble_true h; symm; rw [decide_eq_true_iff, Int.negSucc_eq, Int.negSucc_eq]; omega
      | false => have := ble_false h; symm; rw [decide_eq_false_iff_not, Int.negSucc_eq, Int.negSucc_eq]; omega

/-! Operators. -/
theorem keq_eq {j k : IntKind} (h : keq j k = true) : j = k := by
  cases j <;> cases k <;> first | rfl | (have := beq_true h; revert this; decide)
theorem binOp_int_ne {op : BinOp} (h1 : op ≠ .shl) (h2 : op ≠ .shr) (t : TypeId) (k : IntKind) (a b : Int) : binOp op t (.int k a) (.int k b) =
    match op with
    | .add | .sub | .mul => Op.intArith op k a b
    | .quo | .rem => Op.intDiv op k a b
    | .and | .or | .xor | .andNot => Op.intBits op k a b
    | _ => Op.intCmp op a b := by
  cases op <;> simp [binOp] at h1 h2 ⊢
theorem not_lt_dec (a b : Int) : (!decide (b < a)) = decide (a ≤ b) := by
  by_cases h : b < a
  · rw [decide_eq_true h, decide_eq_false (by omega)]; rfl
  · rw [decide_eq_false h, decide_eq_true (by omega)]; rfl
theorem wrap_mod (k : IntKind) (x : Nat) : k.wrap ((x % 2 ^ k.bits : Nat) : Int) = k.wrap (x : Int) := by
  unfold IntKind.wrap
  have : (((x % 2 ^ k.bits : Nat) : Int) % (2 ^ k.bits : Int)) = (x : Int) % (2 ^ k.bits : Int) := by
    rw [Int.natCast_emod, Int.natCast_pow]; exact Int.emod_emod_of_dvd _ (Int.dvd_refl _)
  simp only [this]
theorem ofInt_toNat (n m : Nat) : (BitVec.ofInt n (Int.ofNat m)).toNat = m % 2 ^ n := by
  simp
theorem intBin_ok {op : BinOp} {k : IntKind} {a b : Int} {v : AV} (t : TypeId) (h1 : op ≠ .shl) (h2 : op ≠ .shr) (e : intBin op k a b = some v) :
    ∃ u, (binOp op t (.int k a) (.int k b)).run P w = .ok u w ∧ RV ρ v u := by
  cases op
  case add =>
    rw [show intBin .add k a b = mkW k (Int.add a b) from rfl, mkW_eq] at e; cases e
    exact ⟨_, by simp [binOp, Op.intArith], .int _ _⟩
  case sub =>
    rw [show intBin .sub k a b = mkW k (a - b) from rfl, mkW_eq] at e; cases e
    exact ⟨_, by simp [binOp, Op.intArith], .int _ _⟩
  case mul =>
    rw [show intBin .mul k a b = mkW k (Int.mul a b) from rfl, mkW_eq] at e; cases e
    exact ⟨_, by simp [binOp, Op.intArith], .int _ _⟩
  case quo =>
    obtain ⟨hz, e1⟩ := bE_none_eq' (show bE (ieq b (.ofNat .zero)) none (mkW k (a.tdiv b)) = some v from e)
    rw [mkW_eq] at e1; cases e1
    rw [ieq_eq] at hz
    have : b ≠ 0 := by simpa using hz
    exact ⟨_, by simp [binOp, Op.intDiv, this], .int _ _⟩
  case rem =>
    obtain ⟨hz, e1⟩ := bE_none_eq' (show bE (ieq b (.ofNat .zero)) none (mkInt k (a.tmod b)) = some v from e)
    rw [mkInt_eq] at e1; cases e1
    rw [ieq_eq] at hz
    have : b ≠ 0 := by simpa using hz
    exact ⟨_, by simp [binOp, Op.intDiv, this], .int _ _⟩
  case eql => cases e; exact ⟨_, by simp [binOp, Op.intCmp]; rfl, by rw [ieq_eq]; exact .bool _⟩
  case neq => cases e; exact ⟨_, by simp [binOp, Op.intCmp]; rfl, by rw [ieq_eq]; exact .bool _⟩
  case lss => cases e; exact ⟨_, by simp [binOp, Op.intCmp]; rfl, by rw [ilt_eq]; exact .bool _⟩
  case leq => cases e; exact ⟨_, by simp [binOp, Op.intCmp]; rfl, by rw [ilt_eq, not_lt_dec a b]; exact .bool _⟩
  case gtr => cases e; exact ⟨_, by simp [binOp, Op.intCmp]; rfl, by rw [ilt_eq]; exact .bool _⟩
  case geq => cases e; exact ⟨_, by simp [binOp, Op.intCmp]; rfl, by rw [ilt_eq, not_lt_dec b a]; exact .bool _⟩
  case shl => exact absurd rfl h1
  case shr => exact absurd rfl h2
  case andNot => cases e
  case and =>
    cases a with
    | ofNat m => cases b with
      | ofNat n =>
        rw [show intBin .and k (.ofNat m) (.ofNat n) = mkW k (.ofNat (m &&& n)) from rfl, mkW_eq] at e; cases e
        refine ⟨_, by simp only [binOp, ne_eq, not_true_eq_false, if_false, Op.intBits]; rfl, ?_⟩
        rw [BitVec.toNat_and, ofInt_toNat, ofInt_toNat, ← Nat.and_mod_two_pow, wrap_mod]
        exact .int _ _
      | negSucc n => cases e
    | negSucc m => cases e
  case or =>
    cases a with
    | ofNat m => cases b with
      | ofNat n =>
        rw [show intBin .or k (.ofNat m) (.ofNat n) = mkW k (.ofNat (m ||| n)) from rfl, mkW_eq] at e; cases e
        refine ⟨_, by simp only [binOp, ne_eq, not_true_eq_false, if_false, Op.intBits]; rfl, ?_⟩
        rw [BitVec.toNat_or, ofInt_toNat, ofInt_toNat, ← Nat.or_mod_two_pow, wrap_mod]
        exact .int _ _
      | negSucc n => cases e
    | negSucc m => cases e
  case xor =>
    cases a with
    | ofNat m => cases b with
      | ofNat n =>
        rw [show intBin .xor k (.ofNat m) (.ofNat n) = mkW k (.ofNat (m ^^^ n)) from rfl, mkW_eq] at e; cases e
        refine ⟨_, by simp only [binOp, ne_eq, not_true_eq_false, if_false, Op.intBits]; rfl, ?_⟩
        rw [BitVec.toNat_xor, ofInt_toNat, ofInt_toNat, ← Nat.xor_mod_two_pow, wrap_mod]
        exact .int _ _
      | negSucc n => cases e
    | negSucc m => cases e
theorem shift_ok {op : BinOp} {k j : IntKind} {a b : Int} {v : AV} (t : TypeId) (h : op = .shl ∨ op = .shr) (e : intOp op k a j b = some v) :
    ∃ u, (binOp op t (.int k a) (.int j b)).run P w = .ok u w ∧ RV ρ v u := by
  cases b with
  | negSucc n => rcases h with rfl | rfl <;> cases e
  | ofNat n =>
    have hn : ¬ (Int.ofNat n < 0) := by simp
    rcases h with rfl | rfl
    · rw [show intOp .shl k a j (.ofNat n) = mkW k (Int.mul a (.ofNat (2 ^ (min n k.bits)))) from rfl, mkW_eq] at e; cases e
      refine ⟨_, by simp only [binOp, Op.shift, if_neg hn]; rfl, ?_⟩
      rw [show a * (2 : Int) ^ min (Int.ofNat n).toNat k.bits = Int.mul a (.ofNat (2 ^ (min n k.bits))) by
        rw [show (Int.ofNat n).toNat = n from rfl, show (Int.ofNat (2 ^ min n k.bits)) = (2 : Int) ^ (min n k.bits) by simp]; exact rfl]
      exact .int _ _
    · cases a with
      | ofNat m =>
        rw [show intOp .shr k (.ofNat m) j (.ofNat n) = mkInt k (.ofNat (m / 2 ^ (min n k.bits))) from rfl, mkInt_eq] at e; cases e
        refine ⟨_, by simp only [binOp, Op.shift, if_neg hn]; rfl, ?_⟩
        rw [show (Int.ofNat m).fdiv (2 ^ min (Int.ofNat n).toNat k.bits) = .ofNat (m / 2 ^ (min n k.bits)) by
          rw [show (Int.ofNat n).toNat = n from rfl, show (2 : Int) ^ (min n k.bits) = Int.ofNat (2 ^ min n k.bits) by simp]; exact Int.fdiv_eq_ediv_of_nonneg (Int.ofNat m) (Int.natCast_nonneg (2 ^ min n k.bits))]
        exact .int _ _
      | negSucc m =>
        rw [show intOp .shr k (.negSucc m) j (.ofNat n) = mkInt k (.negSucc (m / 2 ^ (min n k.bits))) from rfl, mkInt_eq] at e; cases e
        refine ⟨_, by simp only [binOp, Op.shift, if_neg hn]; rfl, ?_⟩
        rw [show (Int.negSucc m).fdiv (2 ^ min (Int.ofNat n).toNat k.bits) = .negSucc (m / 2 ^ (min n k.bits)) by
          rw [show (Int.ofNat n).toNat = n from rfl, show (2 : Int) ^ (min n k.bits) = Int.ofNat (2 ^ min n k.bits) by simp]
          have : 0 < 2 ^ min n k.bits := Nat.pos_of_ne_zero (by simp)
          obtain ⟨q, hq⟩ : ∃ q, 2 ^ min n k.bits = q + 1 := ⟨2 ^ min n k.bits - 1, by omega⟩
          rw [hq]; rfl]
        exact .int _ _

/-! Strings. -/
theorem seq_iff : ∀ a b : List Nat, seq a b = true ↔ a = b
  | [], [] => by simp [seq, lE]
  | [], _ :: _ => by simp [seq, lE]
  | _ :: _, [] => by simp [seq, lE]
  | x :: a, y :: b => by
    show bE (Nat.beq x y) (seq a b) false = true ↔ _
    cases h : Nat.beq x y with
    | true => rw [bE_true, seq_iff a b, beq_true h]; simp
    | false => rw [bE_false]; have := beq_false h; simp [this]
theorem bytes_inj {s t : ByteArray} (h : bytesOf s = bytesOf t) : s = t := by
  have h1 : s.data.toList = t.data.toList := by
    unfold bytesOf at h
    exact List.map_inj_right (fun a b h => UInt8.toNat_inj.1 h) |>.1 h
  cases s; cases t; congr 1; exact Array.toList_inj.1 h1
theorem toList_data (s : ByteArray) : s.toList = s.data.toList := by
  exact ByteArray.toList_eq s
theorem slt_eq : ∀ a b : List UInt8, slt (a.map (·.toNat)) (b.map (·.toNat)) = Op.bytesLess a b
  | [], [] => rfl
  | [], _ :: _ => rfl
  | _ :: _, [] => rfl
  | x :: a, y :: b => by
    show bE (Nat.ble (.succ x.toNat) y.toNat) true (bE (Nat.beq x.toNat y.toNat) (slt (a.map (·.toNat)) (b.map (·.toNat))) false) = _
    rw [slt_eq a b]
    show _ = (decide (x < y) || (x == y && Op.bytesLess a b))
    cases h : Nat.ble (.succ x.toNat) y.toNat with
    | true =>
      have := ble_true h
      have hlt : x < y := UInt8.lt_iff_toNat_lt.2 this
      simp [bE_true, hlt]
    | false =>
      have := ble_false h
      have hlt : ¬ x < y := fun hh => by have := UInt8.lt_iff_toNat_lt.1 hh; omega
      rw [bE_false]
      cases h2 : Nat.beq x.toNat y.toNat with
      | true =>
        have := UInt8.toNat_inj.1 (beq_true h2)
        subst this
        simp [bE_true]
      | false =>
        have hne : x ≠ y := fun hh => beq_false h2 (by rw [hh])
        simp [bE_false, hlt, hne]
theorem strBin_ok {op : BinOp} {x y : ByteArray} {v : AV} (t : TypeId) (e : strBin op (bytesOf x) (bytesOf y) = some v) :
    ∃ u, (binOp op t (.string x) (.string y)).run P w = .ok u w ∧ RV ρ v u := by
  have hseq : seq (bytesOf x) (bytesOf y) = (x.toList == y.toList) := by
    rw [Bool.eq_iff_iff, seq_iff]
    constructor
    · intro h; rw [bytes_inj h]; simp
    · intro h
      have h' : x.toList = y.toList := by simpa using h
      rw [toList_data, toList_data] at h'
      unfold bytesOf; rw [h']
  have hslt : slt (bytesOf x) (bytesOf y) = Op.bytesLess x.toList y.toList := by rw [toList_data, toList_data]; exact slt_eq _ _
  unfold strBin at e
  rw [hseq, hslt] at e
  cases op
  case add =>
    obtain ⟨h1, e1⟩ := bE_none_eq e
    cases e1
    have h2 := ble_true h1
    rw [len_eq, len_eq, bytesOf_length, bytesOf_length] at h2
    have h3 : x.size + y.size ≤ 1073741824 := h2
    refine ⟨.string (x ++ y), ?_, ?_⟩
    · simp only [binOp, Op.stringOp]
      rw [if_neg (by simp only [IntKind.max, IntKind.signed, IntKind.bits]; simp; omega)]
      rfl
    · have := RV.str (ρ := ρ) (x ++ y)
      rwa [show bytesOf (x ++ y) = bytesOf x ++ bytesOf y by simp [bytesOf]] at this
  all_goals first
    | (cases e; done)
    | (cases e; exact ⟨_, by simp only [binOp, Op.stringOp]; rfl, .bool _⟩)
end
end Go.Ab
