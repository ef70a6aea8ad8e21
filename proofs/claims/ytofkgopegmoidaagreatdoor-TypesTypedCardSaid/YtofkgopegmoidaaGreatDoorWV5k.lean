/- A part of an evaluator of the program's operations over values that are known whole or in part, and of the proof that what it answers holds of the program's run. No condition. -/
import Derived.Test.YtofkgopegmoidaaGreatDoorWV4
namespace T1
open Go Go.Ab Go.Proofs
open Go.RowKit (Below)
noncomputable section
/-! syntax.bound at one node -/
def bndTab : List Nat → Nat → Nat → Option Nat
  | [], _, _ => none
  | c :: l, a, x => bE (Nat.beq a x) (some c) (bndTab l (a + 7) x)
def isSl2 (n : Nat) (v : AV) : Bool := match v with
  | .sl k 0 2 (.fix 2) => Nat.beq k n
  | _ => false
/-- bound at an argument: a fresh tree of its class -/
def bndK (cl : List Nat) (_ : Tr AB) (c : Nat) (l : List AV) : ConR := lE l none (fun x l => lE l none (fun ns l => lE l none (fun is l => lE l
  (bE (isSl2 1 ns && isSl2 2 is) (oE (opsAt 7 x) none (fun a => oE (bndTab cl 20 a) none (fun q => some (.agg (opxL (Nat.add (Nat.mul 100 q) 10) c 7), nat_lit 7, none)))) none) (fun _ _ => none))))
def exB (op : Nat) (nm m1 m2 : List Nat) (l : Nat) : AV := .agg [.int .i64 (.ofNat op), .str nm, .bool false, .str m1, .bool false, .str m2, slA 12 l]
def hB (i1 i2 : AV) (l : Nat) : Tr AB := nE l ((Tr.lf.set 1 (.cells .ro [.str [97], .str [98]])).set 2 (.cells .ro [i1, i2])) (fun k => ((Tr.lf.set 1 (.cells .ro [.str [97], .str [98]])).set 2 (.cells .ro [i1, i2])).set 12 (.cells .ro (opsL 20 (7 * (k + 1)))))
def conB (cl : List Nat) : Tr (Tr AB → Nat → List AV → ConR) := Tr.lf.set 58 (bndK cl)
def EB (cl : List Nat) : Env := ⟨fnT, tyT, exT, conB cl⟩
def bR (op : Nat) (nm m1 m2 : List Nat) (i1 i2 : AV) (cl : List Nat) : Out := enter (EB cl) (exec (EB cl) 2000) ⟨.lf, hB i1 i2 cl.length, 100, 100, []⟩ [exB op nm m1 m2 cl.length, .sl 1 0 2 (.fix 2), .sl 2 0 2 (.fix 2)] Tryz.f58 (bodyOf Tryz.f58)
def bLeaf (op t : Nat) (nm m1 m2 : List Nat) : Bool := closeT 0 t 0 (bR op nm m1 m2 .any .any [])
def bNum (ns : List Nat) : Bool := allB' (fun n => bLeaf 1 2 [] (if n = 0 then [] else [n]) []) ns
def bHalf (ns : List Nat) : Bool := allB' (fun n => bLeaf 1 2 [] [n] [2]) ns
def bObj (ns : List Nat) : Bool := allB' (fun n => bLeaf 3 7 [] (if n = 256 then [1, 0] else [n]) []) ns
def bVa (ns : List Nat) : Bool := allB' (fun n => closeT 0 7 0 (bR 4 [97] [] [] (nat n) .any [])) ns
def bVb (ns : List Nat) : Bool := allB' (fun n => closeT 0 7 0 (bR 4 [98] [] [] .any (nat n) [])) ns
def bNode (op t d : Nat) (cl : List Nat) : Bool := closeT 0 t (d + 1) (bR op [] [] [] .any .any cl)
def bUn (d : Nat) : Bool := allB' (fun p => pE p (fun op p => pE p (fun a t => bNode op t d [cc a d]))) r1L
def bBin (d : Nat) : Bool := allB' (fun p => pE p (fun op p => pE p (fun a p => pE p (fun b t => bNode op t d [cc a d, cc b d])))) r2L
def bTer (d : Nat) : Bool := allB' (fun b => bNode 15 5 d [cc 7 0, cc b d, cc 2 0]) [7, 3]
theorem b1 : bNum (upTo 64) = true := by kernel_rfl
theorem b2 : bHalf odds = true := by kernel_rfl
theorem b3 : bObj (from' 1 256) = true := by kernel_rfl
theorem b4 : allB' (fun nm => bLeaf 5 8 nm [] []) zoneN = true := by kernel_rfl
theorem b5 : bVa (from' 1 256) = true := by kernel_rfl
theorem b6 : bVb (from' 1 256) = true := by kernel_rfl
theorem b7 : allB' bUn (upTo 6) = true := by kernel_rfl
theorem b8 : allB' bBin (upTo 6) = true := by kernel_rfl
theorem b9 : allB' bTer (upTo 6) = true := by kernel_rfl
end
end T1
