/- A part of an evaluator of the program's operations over values that are known whole or in part, and of the proof that what it answers holds of the program's run. No condition. -/
import Derived.Test.YtofkgopegmoidaaGreatDoorWS33
namespace Go.Ab
noncomputable section
/-! Growing an expression: the contracts of one function's run. -/
def isPtr0 (v : AV) : Bool := oE (asPtr v) false (fun p => pE p (fun n o => Nat.beq n .zero && Nat.beq o .zero))
/-- the grower's block: its numbers (unread, or read in part), its names -/
def gCells (h : Tr AB) : Option (AV × AV) := oE (cellsAt h .zero) none (fun c => lE c none (fun x l => lE l none (fun y l => lE l (some (x, y)) (fun _ _ => none))))
def isOp90 (v : AV) : Bool := oE (asOp v) false (fun i => Nat.beq i (nat_lit 90))
def gUpd (y : AV) : Option (Nat × AB) := some (.zero, .cells .ro [.any, y])
/-- the next number: the first one of a run is known modulo m -/
def takeK (m r : Nat) (h : Tr AB) (_ : Nat) (l : List AV) : ConR := lE l none (fun a l => lE l (bE (isPtr0 a) (oE (gCells h) none (fun p => pE p (fun x y => some (bE (isOp90 x) (.cong m r) (.rng .i64 (some (.ofNat .zero)) (some (.ofNat (nat_lit 255)))), .zero, gUpd y)))) none) (fun _ _ => none))
def opxL (tag a : Nat) : Nat → List AV
  | 0 => []
  | n + 1 => .opx tag a :: opxL (tag + 1) (a + 1) n
/-- a fresh expression -/
def exF (c : Nat) : AV := .agg (opxL 10 c 7)
def rank (t : Nat) : Nat := match t with
  | 1 => 2
  | 5 => 1
  | 6 => 1
  | _ => 0
def meas (t d : Nat) : Nat := (4 - d) * 10 + rank t
def okTD (t d : Nat) : Bool := Nat.ble 1 t && Nat.ble t 8 && Nat.ble 1 d && (Nat.ble d 3 || Nat.ble (rank t + d) 6)
def inNat (v : AV) : Option Nat := oE (asInt v) none (fun p => pE p (fun k z => bE (keq k .i64) (iE z some (fun _ => none)) none))
def growK (mu : Nat) (h : Tr AB) (c : Nat) (l : List AV) : ConR := lE l none (fun a l => lE l none (fun t l => lE l none (fun d l => lE l
  (bE (isPtr0 a) (oE (gCells h) none (fun p => pE p (fun _ y => oE (inNat t) none (fun t => oE (inNat d) none (fun d => bE (okTD t d && Nat.ble (.succ (meas t d)) mu) (some (exF c, nat_lit 7, gUpd y)) none))))) none) (fun _ _ => none))))
/-- is the number from 0 to 255? -/
def isK (v : AV) : Bool := match v with
  | .cong _ _ => true
  | .int .i64 (.ofNat n) => Nat.ble n 255
  | .rng .i64 (some lo) (some hi) => ilt (.negSucc .zero) lo && ilt hi (.ofNat (nat_lit 256))
  | _ => false
def isZ (v : AV) : Bool := oE (inNat v) false (fun n => Nat.beq n .zero)
/-- periods, truths, numbers: of type t -/
def subK (t mu : Nat) (h : Tr AB) (c : Nat) (l : List AV) : ConR := lE l none (fun a l => lE l none (fun k l => lE l none (fun d l => lE l
  (bE (isPtr0 a && isK k) (oE (gCells h) none (fun p => pE p (fun _ y => oE (inNat d) none (fun d => bE (okTD t d && Nat.ble (meas t d) mu && (Nat.ble d 3 || isZ k)) (some (exF c, nat_lit 7, gUpd y)) none)))) none) (fun _ _ => none))))
def numIn (v : AV) : Bool := match v with
  | .int .i64 n => ilt (.negSucc 3) n && ilt n (.ofNat 61)
  | .rng .i64 (some lo) (some hi) => ilt (.negSucc 3) lo && ilt hi (.ofNat 61)
  | _ => false
def numK (_ : Tr AB) (c : Nat) (l : List AV) : ConR := lE l none (fun a l => lE l (bE (numIn a) (some (exF c, nat_lit 7, none)) none) (fun _ _ => none))
end
end Go.Ab
namespace T1
open Go Go.Ab Go.Proofs
noncomputable section
/-- m, r: the first number; sub: may periods, truths, numbers be called -/
def conG (m r mu : Nat) (sub : Bool) : Tr (Tr AB → Nat → List AV → ConR) :=
  let base := ((Tr.lf.set 82 (takeK m r)).set 45 (growK mu)).set 83 numK
  bE sub (((base.set 85 (subK 4 mu)).set 86 (subK 5 mu)).set 87 (subK 6 mu)) base
def EG (m r mu : Nat) (sub : Bool) : Env := ⟨fnT, tyT, exT, conG m r mu sub⟩
def hG : Tr AB := Tr.lf.set 0 (.cells .ro [.op 90, .nils])
def sG : St := ⟨.lf, hG, 100, 100, []⟩
/-! is the result an expression? -/
def isOpx (tag a : Nat) (v : AV) : Bool := match v with
  | .opx t i => Nat.beq t tag && Nat.beq i a
  | _ => false
def grp (a : Nat) : Nat → Nat → List AV → Bool
  | 0, _, l => len l |> (Nat.beq · 0)
  | n + 1, tag, l => lE l false (fun x l => isOpx tag a x && grp (a + 1) n (tag + 1) l)
def fstId (l : List AV) : Nat := lE l 0 (fun x _ => match x with | .opx _ i => i | _ => 0)
/-- so many groups of seven -/
def grps : Nat → List AV → Bool
  | 0, _ => true
  | n + 1, l => oE (takeN 7 l) false (fun q => grp (fstId q) 7 10 q && oE (dropN 7 l) false (fun l => grps n l))
def isF (v : AV) : Bool := oE (asBool v) false (fun b => bE b false true)
def isE (v : AV) : Bool := oE (asStr v) false (fun l => lE l true (fun _ _ => false))
def isM (v : AV) : Bool := oE (asStr v) false (fun l => lE l true (fun x l => lE l (Nat.ble 1 x && Nat.ble x 60) (fun _ _ => false)))
def okCap (l : Nat) (c : Cap) : Bool := match c with
  | .fix c => Nat.ble l c
  | .el z => Nat.beq z 7
def isSlA (h : Tr AB) (v : AV) : Bool := match v with
  | .nils => true
  | .sl n 0 l cap => Nat.ble 1 l && Nat.ble l 3 && okCap l cap && oE (wcells h n) false (fun p => pE p (fun _ c => grps l c))
  | _ => false
def closeL (h : Tr AB) (l : List AV) : Bool := match l with
  | [.int .i64 _, .str _, b1, m1, b2, m2, s] => isF b1 && isM m1 && isF b2 && isE m2 && isSlA h s
  | _ => false
def closeB (r : Out) : Bool := okE r false (fun v h _ _ => oE (asAgg v) false (fun l => grp (fstId l) 7 10 l || closeL h l))
def runG (f : Func) (args : List AV) (m r mu : Nat) (sub : Bool) : Out := enter (EG m r mu sub) (exec (EG m r mu sub) 2000) sG args f (bodyOf f)
def p0 : AV := .ptr 0 0
def nat (n : Nat) : AV := .int .i64 (.ofNat n)
def rs0 (n : Nat) : List Nat := List.range n
def allB' {α : Type} (f : α → Bool) (l : List α) : Bool := List.rec (motive := fun _ => Bool) true (fun x _ ih => bE (f x) ih false) l
/-- grow at a type and a level -/
def gChk (t m d : Nat) : Bool := allB' (fun r => closeB (runG Tryz.f45 [p0, nat t, nat d] m r (meas t d) true)) (rs0 m)
def sChk (f : Func) (t m m2 d : Nat) : Bool := allB' (fun q => allB' (fun r => closeB (runG f [p0, .cong m q, nat d] m2 r (meas t d) false)) (rs0 m2)) (rs0 m)
def zChk (f : Func) (t m2 d : Nat) : Bool := allB' (fun r => closeB (runG f [p0, nat 0, nat d] m2 r (meas t d) false)) (rs0 m2)
theorem g1_1 : gChk 1 9 1 = true := by kernel_rfl
theorem g2_1 : gChk 2 1 1 = true := by kernel_rfl
theorem g3_1 : gChk 3 1 1 = true := by kernel_rfl
theorem g4_1 : gChk 4 1 1 = true := by kernel_rfl
theorem g5_1 : gChk 5 1 1 = true := by kernel_rfl
theorem g6_1 : gChk 6 1 1 = true := by kernel_rfl
theorem g7_1 : gChk 7 8 1 = true := by kernel_rfl
theorem g8_1 : gChk 8 8 1 = true := by kernel_rfl
theorem s4_1 : sChk Tryz.f85 4 8 4 1 = true := by kernel_rfl
theorem s5_1 : sChk Tryz.f86 5 12 6 1 = true := by kernel_rfl
theorem s6_1 : sChk Tryz.f87 6 10 6 1 = true := by kernel_rfl
theorem g1_2 : gChk 1 9 2 = true := by kernel_rfl
theorem g2_2 : gChk 2 1 2 = true := by kernel_rfl
theorem g3_2 : gChk 3 1 2 = true := by kernel_rfl
theorem g4_2 : gChk 4 1 2 = true := by kernel_rfl
theorem g5_2 : gChk 5 1 2 = true := by kernel_rfl
theorem g6_2 : gChk 6 1 2 = true := by kernel_rfl
theorem g7_2 : gChk 7 8 2 = true := by kernel_rfl
theorem g8_2 : gChk 8 8 2 = true := by kernel_rfl
theorem s4_2 : sChk Tryz.f85 4 8 4 2 = true := by kernel_rfl
theorem s5_2 : sChk Tryz.f86 5 12 6 2 = true := by kernel_rfl
theorem s6_2 : sChk Tryz.f87 6 10 6 2 = true := by kernel_rfl
theorem g1_3 : gChk 1 9 3 = true := by kernel_rfl
theorem g2_3 : gChk 2 1 3 = true := by kernel_rfl
theorem g3_3 : gChk 3 1 3 = true := by kernel_rfl
theorem g4_3 : gChk 4 1 3 = true := by kernel_rfl
theorem g5_3 : gChk 5 1 3 = true := by kernel_rfl
theorem g6_3 : gChk 6 1 3 = true := by kernel_rfl
theorem g7_3 : gChk 7 8 3 = true := by kernel_rfl
theorem g8_3 : gChk 8 8 3 = true := by kernel_rfl
theorem s4_3 : sChk Tryz.f85 4 8 4 3 = true := by kernel_rfl
theorem s5_3 : sChk Tryz.f86 5 12 6 3 = true := by kernel_rfl
theorem s6_3 : sChk Tryz.f87 6 10 6 3 = true := by kernel_rfl
theorem g1_4 : gChk 1 1 4 = true := by kernel_rfl
theorem g2_4 : gChk 2 1 4 = true := by kernel_rfl
theorem g3_4 : gChk 3 1 4 = true := by kernel_rfl
theorem g4_4 : gChk 4 1 4 = true := by kernel_rfl
theorem g5_4 : gChk 5 1 4 = true := by kernel_rfl
theorem g6_4 : gChk 6 1 4 = true := by kernel_rfl
theorem g7_4 : gChk 7 1 4 = true := by kernel_rfl
theorem g8_4 : gChk 8 1 4 = true := by kernel_rfl
theorem s4_4 : zChk Tryz.f85 4 4 4 = true := by kernel_rfl
theorem s5_4 : zChk Tryz.f86 5 6 4 = true := by kernel_rfl
theorem s6_4 : zChk Tryz.f87 6 6 4 = true := by kernel_rfl
theorem g2_5 : gChk 2 1 5 = true := by kernel_rfl
theorem g3_5 : gChk 3 1 5 = true := by kernel_rfl
theorem g4_5 : gChk 4 1 5 = true := by kernel_rfl
theorem g5_5 : gChk 5 1 5 = true := by kernel_rfl
theorem g6_5 : gChk 6 1 5 = true := by kernel_rfl
theorem g7_5 : gChk 7 1 5 = true := by kernel_rfl
theorem g8_5 : gChk 8 1 5 = true := by kernel_rfl
theorem s4_5 : zChk Tryz.f85 4 4 5 = true := by kernel_rfl
theorem s5_5 : zChk Tryz.f86 5 6 5 = true := by kernel_rfl
theorem s6_5 : zChk Tryz.f87 6 6 5 = true := by kernel_rfl
theorem g2_6 : gChk 2 1 6 = true := by kernel_rfl
theorem g3_6 : gChk 3 1 6 = true := by kernel_rfl
theorem g4_6 : gChk 4 1 6 = true := by kernel_rfl
theorem g7_6 : gChk 7 1 6 = true := by kernel_rfl
theorem g8_6 : gChk 8 1 6 = true := by kernel_rfl
theorem s4_6 : zChk Tryz.f85 4 4 6 = true := by kernel_rfl
end
end T1
