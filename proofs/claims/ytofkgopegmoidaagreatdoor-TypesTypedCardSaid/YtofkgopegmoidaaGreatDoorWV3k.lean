/- A part of an evaluator of the program's operations over values that are known whole or in part, and of the proof that what it answers holds of the program's run. No condition. -/
import Derived.Test.YtofkgopegmoidaaGreatDoorWU6
import Derived.Test.YtofkgopegmoidaaGreatDoorWS59
namespace T1
open Go Go.Ab Go.Proofs
noncomputable section
/-! checkNode at the nodes of typed trees -/
def kidsN (op : Nat) : Nat → List AV
  | 0 => []
  | l + 1 => (if op = 2 then AV.int .i64 (.ofNat 1) else .any) :: .any :: .any :: .any :: .any :: .any :: .any :: kidsN op l
def hN (op l : Nat) : Tr AB := nE l .lf (fun k => Tr.lf.set 12 (.cells .ro (kidsN op (k + 1))))
def exN (op : Nat) (nm : List Nat) (b1 : Bool) (m1 : List Nat) (b2 : Bool) (m2 : List Nat) (l : Nat) : AV := .agg [.int .i64 (.ofNat op), .str nm, .bool b1, .str m1, .bool b2, .str m2, slA 12 l]
def nodeR (op : Nat) (nm m1 m2 : List Nat) (l : Nat) : Out := enter EN (exec EN 3000) ⟨.lf, hN op l, 70, 70, []⟩ [exN op nm false m1 false m2 l] Tryz.f124 (bodyOf Tryz.f124)
def chkN' (op : Nat) (nm m1 m2 : List Nat) (l : Nat) : Bool := isInt (.ofNat 0) (nodeR op nm m1 m2 l)
def numWhole (ns : List Nat) : Bool := allB' (fun n => chkN' 1 [] (if n = 0 then [] else [n]) [] 0) ns
def numHalf (ns : List Nat) : Bool := allB' (fun n => chkN' 1 [] [n] [2] 0) ns
def objs (ns : List Nat) : Bool := allB' (fun n => chkN' 3 [] (if n = 256 then [1, 0] else [n]) [] 0) ns
def odds : List Nat := (List.range 32).map (fun k => 2 * k + 1)
def unOps : List Nat := [10, 11, 14, 17, 25, 26, 27]
def binOps : List Nat := [2, 6, 7, 8, 9, 12, 13, 16, 18, 19, 20, 21, 22, 23, 24, 28, 29, 30]
theorem nv : allB' (fun nm => chkN' 4 nm [] [] 0) [[97], [98]] = true := by kernel_rfl
theorem nz : allB' (fun nm => chkN' 5 nm [] [] 0) zoneN = true := by kernel_rfl
theorem nu : allB' (fun op => chkN' op [] [] [] 1) unOps = true := by kernel_rfl
theorem nb : allB' (fun op => chkN' op [] [] [] 2) binOps = true := by kernel_rfl
theorem nt : chkN' 15 [] [] [] 3 = true := by kernel_rfl
theorem nw : numWhole (upTo 64) = true := by kernel_rfl
theorem nh : numHalf odds = true := by kernel_rfl
theorem no : objs (from' 1 256) = true := by kernel_rfl
end
end T1
