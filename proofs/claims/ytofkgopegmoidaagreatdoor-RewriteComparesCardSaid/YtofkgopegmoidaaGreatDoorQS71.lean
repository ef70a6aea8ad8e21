/- A part of an evaluator of the program's operations over values that are known whole or in part, and of the proof that what it answers holds of the program's run. No condition. -/
import Derived.Test.YtofkgopegmoidaaGreatDoorQS68
import Derived.Test.YtofkgopegmoidaaGreatDoorQS70
namespace T1
open Go Go.Ab Go.Proofs
open Go.RowKit (Below)
noncomputable section
set_option maxRecDepth 100000
/-! The law's last part: by the evaluator, the order of the three expressions known. -/
def code3 : Code := bodyOf Tryz.f3
def D4 : Code := fstC (sndC (sndC (sndC code3)))
def D5 : Code := sndC (sndC (sndC (sndC code3)))
theorem okD4 : okCode Tryz.f3.ntmps D4 = true := by kernel_rfl
theorem okD5 : okCode Tryz.f3.ntmps D5 = true := by kernel_rfl
def h3T : Tr AB := ((Tr.lf.set 0 (.cells .ro (opsL 10 7))).set 1 (.cells .ro (opsL 20 7))).set 2 (.cells .ro (opsL 30 7))
def t3T : Tr AV := ((Tr.lf.set 7 (.ptr 0 0)).set 8 (.ptr 1 0)).set 9 (.ptr 2 0)
def s3T : St := ⟨t3T, h3T, 50, 50, []⟩
def tabI (m n r q : Int) : List (Nat × Nat × AV) := [(10, 20, i64r m), (20, 30, i64r n), (10, 30, i64r r), (20, 10, i64r q)]
def tabB (m : Int) : List (Nat × Nat × AV) := [(10, 20, .bool (ieq m (.ofNat .zero))), (10, 10, .bool true)]
def conT (m n r q : Int) : Tr (Tr AB → Nat → List AV → ConR) := ((Tr.lf.set 11 (pairK 7 (tabI m n r q))).set 12 (pairK 7 (tabI m n r q))).set 13 (pairK 7 (tabB m))
def ET (m n r q : Int) : Env := ⟨fnT, tyT, exT, conT m n r q⟩
def isNorm (x : Res) : Bool := rE x true (fun _ => false) false
def run3 (m n r q : Int) : Bool := oE (exec (ET m n r q) 2000 D4 s3T) false (fun p => pE p (fun x s1 => isNorm x && endT (ET m n r q) Tryz.f3 (exec (ET m n r q) 2000 D5 s1)))
def pos (m : Int) : Bool := ilt (.ofNat .zero) m
def bad (m n r : Int) : Bool := !pos m && (!pos n && pos r)
def chk3 (m : Int) : Bool := allB (fun n => allB (fun r => allB (fun q => bE (bad m n r) true (run3 m n r q)) sgn) sgn) sgn
theorem c3a : chk3 (.negSucc 0) = true := by kernel_rfl
theorem c3b : chk3 (.ofNat 0) = true := by kernel_rfl
theorem c3c : chk3 (.ofNat 1) = true := by kernel_rfl
end
end T1
