/- A part of an evaluator of the program's operations over values that are known whole or in part, and of the proof that what it answers holds of the program's run. No condition. -/
import Derived.Test.YtofkgopegmoidaaGreatDoorWU2
namespace Go.Ab
noncomputable section
/-! Typed trees. Types: 1 bool, 2 number, 3 point, 4 period, 5 mbool, 6 mnumber, 7 mpoint, 8 mregion (9: 7 or 3; 10: 6 or 2). -/
def r1L : List (Nat × Nat × Nat) := [(10,5,4),(11,5,4),(11,6,4),(11,7,4),(11,8,4),(14,7,6),(17,8,6),(25,5,5),(25,1,1),(26,5,1),(27,5,1)]
def r2L : List (Nat × Nat × Nat × Nat) := [(2,2,2,3),(6,2,2,4),(7,4,4,4),(8,4,4,4),(9,4,4,4),(12,5,4,5),(12,6,4,6),(12,7,4,7),(12,8,4,8),(13,7,7,6),(13,7,3,6),(16,7,8,5),(18,6,6,6),(18,6,2,6),(19,6,6,6),(19,6,2,6),(20,2,6,6),
  (21,6,6,5),(21,6,2,5),(22,6,6,5),(22,6,2,5),(23,5,5,5),(23,1,1,1),(24,5,5,5),(24,1,1,1),(28,5,2,1),(29,5,2,5),(29,6,2,6),(29,7,2,7),(29,8,2,8),(30,6,2,1)]
def isR1 (op a t : Nat) : Bool := r1L.any fun p => Nat.beq p.1 op && (Nat.beq p.2.1 a && Nat.beq p.2.2 t)
def isR2 (op a b t : Nat) : Bool := r2L.any fun p => Nat.beq p.1 op && (Nat.beq p.2.1 a && (Nat.beq p.2.2.1 b && Nat.beq p.2.2.2 t))
def varN (vs : Nat) : List (List Nat) := match vs with
  | 0 => []
  | 1 => [[97]]
  | _ => [[97], [98]]
def zoneN : List (List Nat) := [[122,111,110,101,49], [122,111,110,101,50], [110,111,110,101]]
/-- a literal of the law's: a number up to 63, or an odd one in halves -/
def isNumL (b1 : Bool) (m1 : List Nat) (b2 : Bool) (m2 : List Nat) : Bool := !b1 && (!b2 && (match m1, m2 with
  | [], [] => true
  | [n], [] => Nat.ble 1 n && Nat.ble n 63
  | [n], [d] => Nat.beq d 2 && (Nat.ble n 63 && Nat.beq (Nat.mod n 2) 1)
  | _, _ => false))
/-- an id up to 256 -/
def isObjL (b1 : Bool) (m1 : List Nat) (b2 : Bool) (m2 : List Nat) : Bool := !b1 && (!b2 && (match m1, m2 with
  | [n], [] => Nat.ble 1 n && Nat.ble n 255
  | [x, y], [] => Nat.beq x 1 && Nat.beq y 0
  | _, _ => false))
def isZ4 (b1 : Bool) (m1 : List Nat) (b2 : Bool) (m2 : List Nat) : Bool := !b1 && (!b2 && (seq m1 [] && seq m2 []))
/-- what may stand at a leaf -/
def isLeaf (vs op : Nat) (nm : List Nat) (b1 : Bool) (m1 : List Nat) (b2 : Bool) (m2 : List Nat) (t : Nat) : Bool := match op with
  | 1 => seq nm [] && (isNumL b1 m1 b2 m2 && Nat.beq t 2)
  | 3 => seq nm [] && (isObjL b1 m1 b2 m2 && Nat.beq t 7)
  | 4 => memS nm (varN vs) && (isZ4 b1 m1 b2 m2 && Nat.beq t 7)
  | 5 => memS nm zoneN && (isZ4 b1 m1 b2 m2 && Nat.beq t 8)
  | _ => false
end
/-- no name, no number -/
def Bare (nm : ByteArray) (b1 : Bool) (m1 : ByteArray) (b2 : Bool) (m2 : ByteArray) : Prop := bytesOf nm = [] ∧ b1 = false ∧ bytesOf m1 = [] ∧ b2 = false ∧ bytesOf m2 = []
inductive TE (vs : Nat) : Nat → Nat → Ex → Prop
  | leaf {t d op : Nat} {nm : ByteArray} {b1 : Bool} {m1 : ByteArray} {b2 : Bool} {m2 : ByteArray} : isLeaf vs op (bytesOf nm) b1 (bytesOf m1) b2 (bytesOf m2) t = true → TE vs t d (.mk (op : Int) nm b1 m1 b2 m2 [])
  | un {t d op a : Nat} {nm : ByteArray} {b1 : Bool} {m1 : ByteArray} {b2 : Bool} {m2 : ByteArray} {y : Ex} : Bare nm b1 m1 b2 m2 → isR1 op a t = true → TE vs a d y → TE vs t (d + 1) (.mk (op : Int) nm b1 m1 b2 m2 [y])
  | bin {t d op a b : Nat} {nm : ByteArray} {b1 : Bool} {m1 : ByteArray} {b2 : Bool} {m2 : ByteArray} {y z : Ex} : Bare nm b1 m1 b2 m2 → isR2 op a b t = true → TE vs a d y → TE vs b d z → TE vs t (d + 1) (.mk (op : Int) nm b1 m1 b2 m2 [y, z])
  | ter {d b : Nat} {nm : ByteArray} {b1 : Bool} {m1 : ByteArray} {b2 : Bool} {m2 : ByteArray} {x y z : Ex} : Bare nm b1 m1 b2 m2 → b = 7 ∨ b = 3 → TE vs 7 0 x → TE vs b d y → TE vs 2 0 z → TE vs 5 (d + 1) (.mk 15 nm b1 m1 b2 m2 [x, y, z])
theorem TE.up {vs : Nat} : ∀ {t d : Nat} {e : Ex}, TE vs t d e → TE vs t (d + 1) e
  | _, _, _, .leaf h => .leaf h
  | _, _, _, .un h1 h2 h3 => .un h1 h2 h3.up
  | _, _, _, .bin h1 h2 h3 h4 => .bin h1 h2 h3.up h4.up
  | _, _, _, .ter h1 h2 h3 h4 h5 => .ter h1 h2 h3 h4.up h5
theorem TE.le {vs t d d' : Nat} {e : Ex} (h : TE vs t d e) (hd : d ≤ d') : TE vs t d' e := by
  induction hd with
  | refl => exact h
  | step _ ih => exact ih.up
def exT' (t : Nat) : List Nat := if t = 9 then [7, 3] else if t = 10 then [6, 2] else [t]
def TEP (vs t d : Nat) (e : Ex) : Prop := ∃ t' ∈ exT' t, TE vs t' d e
def QT (vs : Nat) (c : Nat) (e : Ex) : Prop := TEP vs (c % 16) (c / 16) e
noncomputable section
/-! contracts -/
def cc (t d : Nat) : Nat := Nat.add t (Nat.mul 16 d)
def exC (t d c : Nat) : AV := .agg (opxL (Nat.add (Nat.mul 100 (cc t d)) 10) c 7)
def stage (x : AV) : Nat := match x with
  | .opx t _ => t
  | _ => 0
def knownR (m r n : Nat) : AV := bE (Nat.beq (Nat.mod m n) .zero) (fN (Nat.mod r n) (fun q => .int .i64 (.ofNat q))) (.rng .i64 (some (.ofNat .zero)) (some (.ofNat (Nat.pred n))))
def anyR (n : Nat) : AV := .rng .i64 (some (.ofNat .zero)) (some (.ofNat (Nat.pred n)))
def nextK (m1 r1 m2 r2 : Nat) (h : Tr AB) (c : Nat) (l : List AV) : ConR := lE l none (fun a l => lE l none (fun n l => lE l
  (bE (isPtr0 a) (oE (gCells h) none (fun p => pE p (fun x y => oE (inNat n) none (fun n => bE (Nat.ble 1 n)
    (bE (Nat.beq (stage x) 2) (some (knownR m1 r1 n, 1, some (.zero, .cells .ro [.opx 3 c, y])))
      (bE (Nat.beq (stage x) 3) (some (knownR m2 r2 n, .zero, gUpd y)) (some (anyR n, .zero, gUpd y)))) none)))) none) (fun _ _ => none)))
/-- the level, from -1 on, and one more -/
def inL (v : AV) : Option Nat := oE (asInt v) none (fun p => pE p (fun k z => bE (keq k .i64) (iE z (fun n => some (.succ n)) (fun n => nE n (some .zero) (fun _ => none))) none))
def okTL (t l : Nat) : Bool := bE (Nat.ble 2 l) (Nat.ble 1 t && (Nat.ble t 8 && Nat.ble l 5)) (bE (Nat.beq l 1) (Nat.beq t 5 || (Nat.beq t 7 || Nat.beq t 3)) (Nat.beq t 7 || Nat.beq t 3))
def leafK (t : Nat) (h : Tr AB) (c : Nat) (l : List AV) : ConR := lE l none (fun a l => lE l (bE (isPtr0 a) (oE (gCells h) none (fun p => pE p (fun _ y => some (exC t 0 c, nat_lit 7, gUpd y)))) none) (fun _ _ => none))
def placeK (lv : Nat) (h : Tr AB) (c : Nat) (l : List AV) : ConR := lE l none (fun a l => lE l none (fun n l => lE l
  (bE (isPtr0 a) (oE (gCells h) none (fun p => pE p (fun _ y => oE (inL n) none (fun n => bE (Nat.ble (.succ n) lv) (some (exC 9 (.succ n) c, nat_lit 7, gUpd y)) none)))) none) (fun _ _ => none)))
def amountK (lv : Nat) (h : Tr AB) (c : Nat) (l : List AV) : ConR := lE l none (fun a l => lE l none (fun n l => lE l
  (bE (isPtr0 a) (oE (gCells h) none (fun p => pE p (fun _ y => oE (inL n) none (fun n => bE (Nat.ble 2 n && Nat.ble (.succ n) lv) (some (exC 10 (.succ n) c, nat_lit 7, gUpd y)) none)))) none) (fun _ _ => none)))
/-- typed at levels below lv -/
def typK (lv : Nat) (h : Tr AB) (c : Nat) (l : List AV) : ConR := lE l none (fun a l => lE l none (fun t l => lE l none (fun n l => lE l
  (bE (isPtr0 a) (oE (gCells h) none (fun p => pE p (fun _ y => oE (inNat t) none (fun t => oE (inL n) none (fun n => bE (okTL t n && Nat.ble (.succ n) lv) (some (exC t (.succ n) c, nat_lit 7, gUpd y)) none))))) none) (fun _ _ => none))))
/-! is the result a typed tree? -/
def tagIs (tag : Nat) (v : AV) : Option Nat := match v with
  | .opx t i => bE (Nat.beq t tag) (some i) none
  | _ => none
def clsOf (l : List AV) : Nat := lE l 0 (fun x _ => match x with | .opx t _ => Nat.div (Nat.sub t 10) 100 | _ => 0)
def isGrp (l : List AV) : Bool := T1.grp (T1.fstId l) 7 (Nat.add (Nat.mul 100 (clsOf l)) 10) l
def tyC (c : Nat) : Nat := Nat.mod c 16
def dpC (c : Nat) : Nat := Nat.div c 16
def exL (t : Nat) : List Nat := bE (Nat.beq t 9) [7, 3] (bE (Nat.beq t 10) [6, 2] [t])
/-- classes of the arguments, and the node's -/
def okArgs (op : Nat) (l : List Nat) (t d : Nat) : Bool := match l with
  | [a] => Nat.ble (.succ (dpC a)) d && (exL (tyC a)).all (fun a => isR1 op a t)
  | [a, b] => Nat.ble (.succ (dpC a)) d && (Nat.ble (.succ (dpC b)) d && (exL (tyC a)).all (fun a => (exL (tyC b)).all (fun b => isR2 op a b t)))
  | [a, b, c] => Nat.beq op 15 && (Nat.beq t 5 && (Nat.beq a 7 && (Nat.beq c 2 && (Nat.ble (.succ (dpC b)) d && (exL (tyC b)).all (fun b => Nat.beq b 7 || Nat.beq b 3)))))
  | _ => false
/-- the classes of so many groups -/
def grpsC : Nat → List AV → Option (List Nat)
  | 0, _ => some []
  | n + 1, l => oE (takeN 7 l) none (fun q => bE (isGrp q) (oE (dropN 7 l) none (fun l => oE (grpsC n l) none (fun r => some (clsOf q :: r)))) none)
def subC (c t d : Nat) : Bool := Nat.ble (dpC c) d && (exL (tyC c)).all (fun a => (exL t).any (Nat.beq a))
def closeN (vs : Nat) (h : Tr AB) (l : List AV) (t d : Nat) : Bool := match l with
  | [.int .i64 (.ofNat op), .str nm, .bool b1, .str m1, .bool b2, .str m2, .nils] => (exL t).any (fun t => isLeaf vs op nm b1 m1 b2 m2 t)
  | [.int .i64 (.ofNat op), .str nm, .bool b1, .str m1, .bool b2, .str m2, .sl n 0 k cap] => seq nm [] && (isZ4 b1 m1 b2 m2 && (Nat.ble 1 k && (Nat.ble k 3 && (T1.okCap k cap && oE (wcells h n) false (fun p => pE p (fun _ c => oE (grpsC k c) false (fun r => okArgs op r t d)))))))
  | _ => false
def closeT (vs t d : Nat) (r : Out) : Bool := okE r false (fun v h _ _ => oE (asAgg v) false (fun l => bE (isGrp l) (subC (clsOf l) t d) (closeN vs h l t d)))
end
end Go.Ab
namespace T1
open Go Go.Ab Go.Proofs
noncomputable section
def conY (m1 r1 m2 r2 lt lp : Nat) : Tr (Tr AB → Nat → List AV → ConR) := (((((Tr.lf.set 117 (nextK m1 r1 m2 r2)).set 119 (leafK 2)).set 120 (leafK 7)).set 121 (placeK lp)).set 122 (amountK lp)).set 56 (typK lt)
def conY0 (m1 r1 : Nat) : Tr (Tr AB → Nat → List AV → ConR) := Tr.lf.set 117 (nextK m1 r1 1 0)
def EY (m1 r1 m2 r2 lt lp : Nat) : Env := ⟨fnT, tyT, exT, conY m1 r1 m2 r2 lt lp⟩
def EY0 (m1 r1 : Nat) : Env := ⟨fnT, tyT, exT, conY0 m1 r1⟩
def hY (y : AV) : Tr AB := Tr.lf.set 0 (.cells .ro [.opx 2 90, y])
def sY (y : AV) : St := ⟨.lf, hY y, 100, 100, []⟩
def runY (f : Func) (args : List AV) (m1 r1 m2 r2 lt lp : Nat) : Out := enter (EY m1 r1 m2 r2 lt lp) (exec (EY m1 r1 m2 r2 lt lp) 2000) (sY .any) args f (bodyOf f)
def runY0 (f : Func) (args : List AV) (y : AV) (m1 r1 : Nat) : Out := enter (EY0 m1 r1) (exec (EY0 m1 r1) 2000) (sY y) args f (bodyOf f)
def lvl (l : Nat) : AV := nE l (.int .i64 (.negSucc .zero)) (fun n => .int .i64 (.ofNat n))
def upTo (n : Nat) : List Nat := List.range n
def from' (a n : Nat) : List Nat := (List.range n).map (· + a)
def numChk (rs : List Nat) : Bool := allB' (fun r => closeT 0 2 0 (runY0 Tryz.f119 [p0] .any 256 r)) rs
def pointChk (vs : Nat) : Bool := allB' (fun r => closeT vs 7 0 (runY0 Tryz.f120 [p0] (nat vs) 8 r)) (upTo 8)
def placeChk (l : Nat) : Bool := allB' (fun r => closeT 0 9 (l + 1) (runY Tryz.f121 [p0, lvl l] 2 r 1 0 (l + 1) 0)) (upTo 2)
def amountChk (l : Nat) : Bool := allB' (fun r => closeT 0 10 (l + 1) (runY Tryz.f122 [p0, lvl l] 2 r 1 0 (l + 1) 0)) (upTo 2)
def typChk (l t m1 m2 : Nat) : Bool := allB' (fun r => allB' (fun q => closeT 0 t (l + 1) (runY Tryz.f56 [p0, nat t, lvl l] m1 r m2 q l l)) (upTo m2)) (upTo m1)
theorem pt0 : pointChk 0 = true := by kernel_rfl
theorem pt1 : pointChk 1 = true := by kernel_rfl
theorem pt2 : pointChk 2 = true := by kernel_rfl
theorem pl0 : placeChk 0 = true := by kernel_rfl
theorem pl1 : placeChk 1 = true := by kernel_rfl
theorem pl2 : placeChk 2 = true := by kernel_rfl
theorem pl3 : placeChk 3 = true := by kernel_rfl
theorem pl4 : placeChk 4 = true := by kernel_rfl
theorem am2 : amountChk 2 = true := by kernel_rfl
theorem am3 : amountChk 3 = true := by kernel_rfl
theorem am4 : amountChk 4 = true := by kernel_rfl
theorem ty0_3 : typChk 0 3 1 1 = true := by kernel_rfl
theorem ty0_7 : typChk 0 7 1 1 = true := by kernel_rfl
theorem ty1_3 : typChk 1 3 1 1 = true := by kernel_rfl
theorem ty1_5 : typChk 1 5 1 1 = true := by kernel_rfl
theorem ty1_7 : typChk 1 7 1 1 = true := by kernel_rfl
theorem ty2_1 : typChk 2 1 1 1 = true := by kernel_rfl
theorem ty2_2 : typChk 2 2 1 1 = true := by kernel_rfl
theorem ty2_3 : typChk 2 3 1 1 = true := by kernel_rfl
theorem ty2_4 : typChk 2 4 1 1 = true := by kernel_rfl
theorem ty2_5 : typChk 2 5 1 1 = true := by kernel_rfl
theorem ty2_6 : typChk 2 6 1 1 = true := by kernel_rfl
theorem ty2_7 : typChk 2 7 1 1 = true := by kernel_rfl
theorem ty2_8 : typChk 2 8 3 1 = true := by kernel_rfl
theorem ty3_1 : typChk 3 1 10 1 = true := by kernel_rfl
theorem ty3_2 : typChk 3 2 10 1 = true := by kernel_rfl
theorem ty3_3 : typChk 3 3 10 1 = true := by kernel_rfl
theorem ty3_4 : typChk 3 4 10 4 = true := by kernel_rfl
theorem ty3_5 : typChk 3 5 10 1 = true := by kernel_rfl
theorem ty3_6 : typChk 3 6 10 1 = true := by kernel_rfl
theorem ty3_7 : typChk 3 7 10 1 = true := by kernel_rfl
theorem ty3_8 : typChk 3 8 10 3 = true := by kernel_rfl
theorem ty4_1 : typChk 4 1 10 1 = true := by kernel_rfl
theorem ty4_2 : typChk 4 2 10 1 = true := by kernel_rfl
theorem ty4_3 : typChk 4 3 10 1 = true := by kernel_rfl
theorem ty4_4 : typChk 4 4 10 4 = true := by kernel_rfl
theorem ty4_5 : typChk 4 5 10 1 = true := by kernel_rfl
theorem ty4_6 : typChk 4 6 10 1 = true := by kernel_rfl
theorem ty4_7 : typChk 4 7 10 1 = true := by kernel_rfl
theorem ty4_8 : typChk 4 8 10 3 = true := by kernel_rfl
theorem ty5_1 : typChk 5 1 10 1 = true := by kernel_rfl
theorem ty5_2 : typChk 5 2 10 1 = true := by kernel_rfl
theorem ty5_3 : typChk 5 3 10 1 = true := by kernel_rfl
theorem ty5_4 : typChk 5 4 10 4 = true := by kernel_rfl
theorem ty5_5 : typChk 5 5 10 1 = true := by kernel_rfl
theorem ty5_6 : typChk 5 6 10 1 = true := by kernel_rfl
theorem ty5_7 : typChk 5 7 10 1 = true := by kernel_rfl
theorem ty5_8 : typChk 5 8 10 3 = true := by kernel_rfl
end
end T1
