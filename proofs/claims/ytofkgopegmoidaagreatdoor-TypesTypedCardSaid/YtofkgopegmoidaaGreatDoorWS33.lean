/- A part of an evaluator of the program's operations over values that are known whole or in part, and of the proof that what it answers holds of the program's run. No condition. -/
import Derived.Test.YtofkgopegmoidaaGreatDoorWS32
namespace Go.Ab
noncomputable section
/-! Comparing two expressions: one level of both, their parts unknown, the order of the parts known. -/
def asOp (v : AV) : Option Nat := AV.rec (motive_1 := fun _ => Option Nat) (motive_2 := fun _ => Unit) (none) (fun _ => none) (fun _ _ => none) (fun _ => none) (none) (fun _ _ => none) (none) (fun _ _ _ _ => none) (none) (fun _ => none) (none) (fun _ _ _ _ _ => none) (none) (fun _ _ _ => none) (fun _ _ => none) (fun _ _ => none) (fun i => some i) (fun _ _ => none) (fun _ _ => none) (fun _ _ => none) (fun _ _ _ => none) (fun _ _ _ => none) () (fun _ _ _ _ => ()) v
/-- the cells .op a, .op (a + 1) .. -/
def isOps (l : List AV) : Nat → Bool := List.rec (motive := fun _ => Nat → Bool) (fun _ => true) (fun x _ ih a => bE (oE (asOp x) false (fun i => Nat.beq i a)) (ih (.succ a)) false) l
def opsAt (k : Nat) (v : AV) : Option Nat := oE (asAgg v) none (fun l => lE l none (fun x _ => oE (asOp x) none (fun a => bE (isOps l a && Nat.beq (len l) k) (some a) none)))
def cmpI (a b : Int) : Int := bE (ilt a b) (.negSucc .zero) (bE (ieq a b) (.ofNat .zero) (.ofNat (nat_lit 1)))
def ordAV (id : Nat) : AV → AV → Option Int
  | .int j a, .int k b => bE (Nat.beq id .zero && (keq j .i64 && keq k .i64)) (some (cmpI a b)) none
  | .ordv i r, .ordv j q => bE (Nat.beq i id && Nat.beq j id) (ordS r q) none
  | _, _ => none
def two (f : AV → AV → Option AV) (l : List AV) : Option AV := lE l none (fun a l => lE l none (fun b l => lE l (f a b) (fun _ _ => none)))
abbrev ConR := Option (AV × Nat × Option (Nat × AB))
def res0 (v : Option AV) : ConR := oE v none (fun v => some (v, .zero, none))
def i64r (n : Int) : AV := .int .i64 n
/-- cmp.Compare -/
def cmpK (id : Nat) (_ : Tr AB) (_ : Nat) (l : List AV) : ConR := res0 (two (fun a b => oE (ordAV id a b) none (fun s => some (i64r s))) l)
/-- a comparison of two aggregates of unknown cells: by a table -/
def pairK (k : Nat) (tab : List (Nat × Nat × AV)) (_ : Tr AB) (_ : Nat) (l : List AV) : ConR := res0 (two (fun x y => oE (opsAt k x) none (fun a => oE (opsAt k y) none (fun b =>
  List.rec (motive := fun _ => Option AV) none (fun p _ ih => pE p (fun i q => pE q (fun j v => bE (Nat.beq i a && Nat.beq j b) (some v) ih))) tab))) l)
end
end Go.Ab
namespace T1
open Go Go.Ab Go.Proofs
noncomputable section
def opsL (a : Nat) : Nat → List AV
  | 0 => []
  | n + 1 => .op a :: opsL (a + 1) n
def rsTab : List Int → Nat → Nat → List (Nat × Nat × AV)
  | [], _, _ => []
  | r :: rs, a, b => (a, b, i64r r) :: rsTab rs (a + 7) (b + 7)
def slA (n l : Nat) : AV := nE l .nils (fun k => .sl n 0 (.succ k) (.el 7))
def exA (ro rn : Int) (q n l : Nat) : AV := .agg ([.ordv 0 ro, .ordv 1 rn] ++ (opsL q 4 ++ [slA n l]))
def xA (l : Nat) : AV := exA 0 0 2 12 l
def yA (ro rn : Int) (l : Nat) : AV := exA ro rn 8 13 l
def hA (l1 l2 : Nat) : Tr AB := nE l2 (nE l1 .lf (fun _ => Tr.lf.set 12 (.cells .ro (opsL 20 (7 * l1))))) (fun _ => (nE l1 Tr.lf (fun _ => Tr.lf.set 12 (.cells .ro (opsL 20 (7 * l1))))).set 13 (.cells .ro (opsL 41 (7 * l2))))
/-- the contracts of one case; g: the number of the function that is called for the arguments -/
def conC (g : Nat) (rq : Int) (rs : List Int) : Tr (Tr AB → Nat → List AV → ConR) :=
  (((Tr.lf.set 47 (cmpK 0)).set 48 (cmpK 1)).set 49 (pairK 4 [(2, 8, i64r rq)])).set g (pairK 7 (rsTab rs 20 41))
def EC (g : Nat) (rq : Int) (rs : List Int) : Env := ⟨fnT, tyT, exT, conC g rq rs⟩
def sC (l1 l2 : Nat) : St := ⟨.lf, hA l1 l2, 70, 70, []⟩
def isInt (n : Int) (r : Out) : Bool := okE r false (fun v _ _ _ => oE (asInt v) false (fun p => pE p (fun k m => keq k .i64 && ieq m n)))
def runC (g : Nat) (fn : Func) (ro rn rq : Int) (l1 l2 : Nat) (rs : List Int) : Out := enter (EC g rq rs) (exec (EC g rq rs) 2000) (sC l1 l2) [xA l1, yA (Int.neg ro) (Int.neg rn) l2] fn (bodyOf fn)
def allB {α : Type} (f : α → Bool) (l : List α) : Bool := List.rec (motive := fun _ => Bool) true (fun x _ ih => bE (f x) ih false) l
def sgn : List Int := [.negSucc 0, .ofNat 0, .ofNat 1]
def ars : List Nat := [0, 1, 2, 3]
/-- the first that isn't 0 -/
def fst0 (l : List Int) : Int := List.rec (motive := fun _ => Int) (.ofNat .zero) (fun x _ ih => bE (ieq x (.ofNat .zero)) ih x) l
def lenC (l1 l2 : Nat) : Int := cmpI (.ofNat l1) (.ofNat l2)
def head4 (ro rn rq : Int) (l1 l2 : Nat) : Int := fst0 [ro, rn, rq, lenC l1 l2]
/-- the first four parts decide -/
def chkH (g : Nat) (fn : Func) (ro : Int) : Bool := allB (fun rn => allB (fun rq => allB (fun l1 => allB (fun l2 => bE (ieq (head4 ro rn rq l1 l2) (.ofNat .zero)) true (isInt (head4 ro rn rq l1 l2) (runC g fn ro rn rq l1 l2 []))) ars) ars) sgn) sgn
/-- the arguments decide: so many that are equal, and one that isn't -/
def rows : Nat → List (List Int)
  | 0 => [[]]
  | n + 1 => [.negSucc 0] :: [.ofNat 1] :: (rows n).map (fun l => .ofNat 0 :: l)
def chkT (g : Nat) (fn : Func) : Bool := allB (fun l => allB (fun rs => isInt (fst0 rs) (runC g fn (.ofNat 0) (.ofNat 0) (.ofNat 0) l l rs)) (rows l)) ars
theorem h11a : chkH 11 Tryz.f11 (.negSucc 0) = true := by kernel_rfl
theorem h11b : chkH 11 Tryz.f11 (.ofNat 0) = true := by kernel_rfl
theorem h11c : chkH 11 Tryz.f11 (.ofNat 1) = true := by kernel_rfl
theorem t11 : chkT 11 Tryz.f11 = true := by kernel_rfl
theorem h12a : chkH 12 Tryz.f12 (.negSucc 0) = true := by kernel_rfl
theorem h12b : chkH 12 Tryz.f12 (.ofNat 0) = true := by kernel_rfl
theorem h12c : chkH 12 Tryz.f12 (.ofNat 1) = true := by kernel_rfl
theorem t12 : chkT 12 Tryz.f12 = true := by kernel_rfl
end
end T1
