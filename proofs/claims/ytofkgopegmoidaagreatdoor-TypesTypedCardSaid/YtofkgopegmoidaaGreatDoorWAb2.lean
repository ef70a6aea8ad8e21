/- A part of an evaluator of the program's operations over values that are known whole or in part, and of the proof that what it answers holds of the program's run. No condition. -/
import GoSem.Core.Code
import GoSem.Core.View
import GoSem.Core.Utf8
namespace Go.Ab
noncomputable section

/-! Eliminators, straight to the recursors: the kernel evaluates these fast. -/
def oE {α β : Type} (x : Option α) (n : β) (s : α → β) : β := Option.rec (motive := fun _ => β) n s x
def bE {β : Type} (c : Bool) (t f : β) : β := Bool.rec (motive := fun _ => β) f t c
def nE {β : Type} (k : Nat) (z : β) (s : Nat → β) : β := Nat.rec (motive := fun _ => β) z (fun k _ => s k) k
def fN {β : Type} (n : Nat) (f : Nat → β) : β := nE n (f .zero) (fun n => f (.succ n))
def lE {α β : Type} (l : List α) (n : β) (c : α → List α → β) : β := List.rec (motive := fun _ => β) n (fun x r _ => c x r) l
def pE {α β γ : Type} (p : α × β) (f : α → β → γ) : γ := Prod.rec (motive := fun _ => γ) f p

/-- Capacity of a slice: known, or open (to the end of a block that append has made; the number is the size of an element). -/
inductive Cap where
  | fix (c : Nat)
  | el (sz : Nat)

inductive AV where
  | any
  | bool (b : Bool)
  | int (k : IntKind) (n : Int)
  | str (s : List Nat)
  | nilp
  | ptr (n o : Nat)
  | nils
  | sl (n o len : Nat) (cap : Cap)
  | nilm
  | map (n : Nat)
  | nilf
  | fn (f : Nat) (first cap : List AV)
  | nili
  | iface (t : Nat) (v : AV)
  | agg (l : List AV)
  | tup (l : List AV)
  | op (i : Nat)
  | ordv (i : Nat) (r : Int)
  | opx (tag i : Nat)
  | cong (m r : Nat)
  | rng (k : IntKind) (lo hi : Option Int)
  | snot (ne : List (List Nat)) (lo hi : Option Nat)

inductive Tr (α : Type) where
  | lf
  | nd (l : Tr α) (v : Option α) (r : Tr α)

namespace Tr
variable {α β : Type}
def tE (t : Tr α) (n : β) (s : Tr α → Option α → Tr α → β) : β := Tr.rec (motive := fun _ => β) n (fun l v r _ _ => s l v r) t
def get (t : Tr α) : Nat → Option α := Tr.rec (motive := fun _ => Nat → Option α) (fun _ => none)
  (fun _ v _ ihl ihr k => Nat.rec (motive := fun _ => Option α) v (fun k _ => Bool.rec (motive := fun _ => Option α) (ihr (Nat.div k (nat_lit 2))) (ihl (Nat.div k (nat_lit 2))) (Nat.beq (Nat.mod k (nat_lit 2)) (nat_lit 0))) k) t
/-- the left (right) child laid anew, evaluated -/
def ndl (l : Tr α) : Option α → Tr α → Tr α := Tr.rec (motive := fun _ => Option α → Tr α → Tr α) (fun v r => .nd .lf v r) (fun a b c _ _ v r => .nd (.nd a b c) v r) l
def ndr (r : Tr α) : Tr α → Option α → Tr α := Tr.rec (motive := fun _ => Tr α → Option α → Tr α) (fun l v => .nd l v .lf) (fun a b c _ _ l v => .nd l v (.nd a b c)) r
def setB (b : Bool) : (Tr α → Nat → Tr α) → Tr α → Option α → Tr α → Nat → Tr α := Bool.rec (motive := fun _ => (Tr α → Nat → Tr α) → Tr α → Option α → Tr α → Nat → Tr α)
  (fun ih l v r k => ndr (ih r (Nat.div k (nat_lit 2))) l v) (fun ih l v r k => ndl (ih l (Nat.div k (nat_lit 2))) v r) b
def setK (k : Nat) : α → (Tr α → Nat → Tr α) → Tr α → Option α → Tr α → Tr α := Nat.rec (motive := fun _ => α → (Tr α → Nat → Tr α) → Tr α → Option α → Tr α → Tr α)
  (fun x _ l _ r => .nd l (some x) r) (fun k _ _ ih l v r => setB (Nat.beq (Nat.mod k (nat_lit 2)) (nat_lit 0)) ih l v r k) k
def setT (t : Tr α) : α → (Tr α → Nat → Tr α) → Nat → Tr α := Tr.rec (motive := fun _ => α → (Tr α → Nat → Tr α) → Nat → Tr α)
  (fun x ih k => setK k x ih .lf none .lf) (fun l v r _ _ x ih k => setK k x ih l v r) t
def setf (x : α) (f : Nat) : Tr α → Nat → Tr α := Nat.rec (motive := fun _ => Tr α → Nat → Tr α) (fun t _ => t) (fun _ ih t k => setT t x ih k) f
def set (t : Tr α) (k : Nat) (x : α) : Tr α := setf x (Nat.succ k) t k
def setO (t : Tr α) (k : Nat) (x : Option α) : Tr α := Option.rec (motive := fun _ => Tr α) t (set t k) x
def ofListO (l : List (Option α)) : Tr α := List.rec (motive := fun _ => Nat → Tr α → Tr α) (fun _ t => t)
  (fun x _ ih i t => Tr.rec (motive := fun _ => Tr α) (ih (.succ i) .lf) (fun a b c _ _ => ih (.succ i) (.nd a b c)) (setO t i x)) l .zero .lf
def ofList (l : List α) : Tr α := List.rec (motive := fun _ => Nat → Tr α → Tr α) (fun _ t => t)
  (fun x _ ih i t => tE (set t i x) .lf (fun a b c => ih (.succ i) (.nd a b c))) l .zero .lf
end Tr

inductive BK where
  | ro | fix | el

inductive AB where
  | cells (k : BK) (c : List AV)
  | amap (es : List (AV × AV))
  | siter (s : List Nat) (pos : Nat)
  | dead

inductive TD where
  | bool | int (k : IntKind) | str | ptr | sl (e : Nat) | arr (n e : Nat) | map (k e : Nat) | st (fs : List (Nat × Nat)) | fn | ifc | oth

structure TI where
  size : Nat
  bytes : Nat
  agg : Bool
  z : List AV
  d : TD
  eq : Bool

structure Env where
  fn : Tr Func
  ty : Tr TI
  ext : Tr Nat
  con : Tr (Tr AB → Nat → List AV → Option (AV × Nat × Option (Nat × AB)))

structure St where
  t : Tr AV
  h : Tr AB
  c : Nat
  b : Nat
  wl : List Nat

/-- what an operation comes to -/
inductive Out where
  | no
  | ok (v : AV) (h : Tr AB) (c : Nat) (tl : List Nat)

/-! lists -/
def nth {α : Type} (l : List α) : Nat → Option α := List.rec (motive := fun _ => Nat → Option α) (fun _ => none) (fun x _ ih i => nE i (some x) ih) l
def dropN {α : Type} (n : Nat) : List α → Option (List α) := Nat.rec (motive := fun _ => List α → Option (List α)) some (fun _ ih l => lE l none (fun _ r => ih r)) n
def takeN {α : Type} (n : Nat) : List α → Option (List α) := Nat.rec (motive := fun _ => List α → Option (List α)) (fun _ => some [])
  (fun _ ih l => lE l none (fun x r => oE (ih r) none (fun q => some (x :: q)))) n
/-- the cells from o on, n of them -/
def sub {α : Type} (l : List α) (o n : Nat) : Option (List α) := oE (dropN o l) none (takeN n)
/-- l with xs in the place of as many cells from its head on -/
def over {α : Type} (xs : List α) : List α → Option (List α) := List.rec (motive := fun _ => List α → Option (List α)) some
  (fun x _ ih l => lE l none (fun _ r => oE (ih r) none (fun q => some (x :: q)))) xs
def put {α : Type} (xs : List α) (o : Nat) : List α → Option (List α) := Nat.rec (motive := fun _ => List α → Option (List α)) (over xs)
  (fun _ ih l => lE l none (fun y r => oE (ih r) none (fun q => some (y :: q)))) o
def len {α : Type} (l : List α) : Nat := List.rec (motive := fun _ => Nat) .zero (fun _ _ ih => .succ ih) l
def mem (n : Nat) (l : List Nat) : Bool := List.rec (motive := fun _ => Bool) false (fun x _ ih => bE (Nat.beq n x) true ih) l
def reps {α : Type} (z : List α) (n : Nat) : List α := Nat.rec (motive := fun _ => List α) [] (fun _ ih => z ++ ih) n

def asInt (v : AV) : Option (IntKind × Int) := AV.rec (motive_1 := fun _ => Option (IntKind × Int)) (motive_2 := fun _ => Unit) (none) (fun _ => none) (fun k n => some (k, n)) (fun _ => none) (none) (fun _ _ => none) (none) (fun _ _ _ _ => none) (none) (fun _ => none) (none) (fun _ _ _ _ _ => none) (none) (fun _ _ _ => none) (fun _ _ => none) (fun _ _ => none) (fun _ => none) (fun _ _ => none) (fun _ _ => none) (fun _ _ => none) (fun _ _ _ => none) (fun _ _ _ => none) () (fun _ _ _ _ => ()) v
def asBool (v : AV) : Option (Bool) := AV.rec (motive_1 := fun _ => Option (Bool)) (motive_2 := fun _ => Unit) (none) (fun b => some b) (fun _ _ => none) (fun _ => none) (none) (fun _ _ => none) (none) (fun _ _ _ _ => none) (none) (fun _ => none) (none) (fun _ _ _ _ _ => none) (none) (fun _ _ _ => none) (fun _ _ => none) (fun _ _ => none) (fun _ => none) (fun _ _ => none) (fun _ _ => none) (fun _ _ => none) (fun _ _ _ => none) (fun _ _ _ => none) () (fun _ _ _ _ => ()) v
def asStr (v : AV) : Option (List Nat) := AV.rec (motive_1 := fun _ => Option (List Nat)) (motive_2 := fun _ => Unit) (none) (fun _ => none) (fun _ _ => none) (fun l => some l) (none) (fun _ _ => none) (none) (fun _ _ _ _ => none) (none) (fun _ => none) (none) (fun _ _ _ _ _ => none) (none) (fun _ _ _ => none) (fun _ _ => none) (fun _ _ => none) (fun _ => none) (fun _ _ => none) (fun _ _ => none) (fun _ _ => none) (fun _ _ _ => none) (fun _ _ _ => none) () (fun _ _ _ _ => ()) v
def asPtr (v : AV) : Option (Nat × Nat) := AV.rec (motive_1 := fun _ => Option (Nat × Nat)) (motive_2 := fun _ => Unit) (none) (fun _ => none) (fun _ _ => none) (fun _ => none) (none) (fun n o => some (n, o)) (none) (fun _ _ _ _ => none) (none) (fun _ => none) (none) (fun _ _ _ _ _ => none) (none) (fun _ _ _ => none) (fun _ _ => none) (fun _ _ => none) (fun _ => none) (fun _ _ => none) (fun _ _ => none) (fun _ _ => none) (fun _ _ _ => none) (fun _ _ _ => none) () (fun _ _ _ _ => ()) v
def asAgg (v : AV) : Option (List AV) := AV.rec (motive_1 := fun _ => Option (List AV)) (motive_2 := fun _ => Unit) (none) (fun _ => none) (fun _ _ => none) (fun _ => none) (none) (fun _ _ => none) (none) (fun _ _ _ _ => none) (none) (fun _ => none) (none) (fun _ _ _ _ _ => none) (none) (fun _ _ _ => none) (fun l _ => some l) (fun _ _ => none) (fun _ => none) (fun _ _ => none) (fun _ _ => none) (fun _ _ => none) (fun _ _ _ => none) (fun _ _ _ => none) () (fun _ _ _ _ => ()) v
def asTup (v : AV) : Option (List AV) := AV.rec (motive_1 := fun _ => Option (List AV)) (motive_2 := fun _ => Unit) (none) (fun _ => none) (fun _ _ => none) (fun _ => none) (none) (fun _ _ => none) (none) (fun _ _ _ _ => none) (none) (fun _ => none) (none) (fun _ _ _ _ _ => none) (none) (fun _ _ _ => none) (fun _ _ => none) (fun l _ => some l) (fun _ => none) (fun _ _ => none) (fun _ _ => none) (fun _ _ => none) (fun _ _ _ => none) (fun _ _ _ => none) () (fun _ _ _ _ => ()) v
def asFn (v : AV) : Option (Nat × List AV × List AV) := AV.rec (motive_1 := fun _ => Option (Nat × List AV × List AV)) (motive_2 := fun _ => Unit) (none) (fun _ => none) (fun _ _ => none) (fun _ => none) (none) (fun _ _ => none) (none) (fun _ _ _ _ => none) (none) (fun _ => none) (none) (fun f a b _ _ => some (f, a, b)) (none) (fun _ _ _ => none) (fun _ _ => none) (fun _ _ => none) (fun _ => none) (fun _ _ => none) (fun _ _ => none) (fun _ _ => none) (fun _ _ _ => none) (fun _ _ _ => none) () (fun _ _ _ _ => ()) v
/-- a value of one cell -/
def scal (v : AV) : Bool := AV.rec (motive_1 := fun _ => Bool) (motive_2 := fun _ => Unit) false (fun _ => true) (fun _ _ => true) (fun _ => true) true (fun _ _ => true) true (fun _ _ _ _ => true) true (fun _ => true) true (fun _ _ _ _ _ => true) true (fun _ _ _ => true) (fun _ _ => false) (fun _ _ => false) (fun _ => true) (fun _ _ => true) (fun _ _ => true) (fun _ _ => true) (fun _ _ _ => true) (fun _ _ _ => true) () (fun _ _ _ _ => ()) v
/-- the cells of a value -/
def cellsO (v : AV) : Option (List AV) := oE (asAgg v) (bE (scal v) (some [v]) none) some

/-! constants -/
def bytesOf (s : ByteArray) : List Nat := s.data.toList.map (·.toNat)
/-- constants that are one cell -/
def cv1 : Value → Option AV
  | .bool b => some (.bool b)
  | .int k n => some (.int k n)
  | .string s => some (.str (bytesOf s))
  | .pointer none => some .nilp
  | .slice none 0 0 => some .nils
  | .map none => some .nilm
  | .nilFunc => some .nilf
  | .nilIface => some .nili
  | _ => none
def cvs (l : List Value) : Option (List AV) := List.rec (motive := fun _ => Option (List AV)) (some [])
  (fun v _ ih => oE (cv1 v) none (fun a => oE ih none (fun r => some (a :: r)))) l
def cv : Value → Option AV
  | .agg cs => oE (cvs cs.toList) none (fun l => some (.agg l))
  | .tuple cs => oE (cvs cs.toList) none (fun l => some (.tup l))
  | v => cv1 v

def evO (x : Operand) : Tr AV → Option AV := Operand.rec (motive := fun _ => Tr AV → Option AV) (fun i t => t.get i) (fun v _ => cv v) (fun _ _ => none) (fun f _ => some (.fn f [] [])) x
def ev (t : Tr AV) (x : Operand) : Option AV := evO x t
def evs (t : Tr AV) (l : List Operand) : Option (List AV) := List.rec (motive := fun _ => Option (List AV)) (some [])
  (fun x _ ih => oE (ev t x) none (fun v => oE ih none (fun r => some (v :: r)))) l

/-! numbers -/
def iE {β : Type} (n : Int) (p m : Nat → β) : β := Int.rec (motive := fun _ => β) p m n
/-- the number evaluated -/
def mkInt (k : IntKind) (n : Int) : Option AV := iE n (fun m => nE m (some (.int k (.ofNat .zero))) (fun m => some (.int k (.ofNat (.succ m)))))
  (fun m => nE m (some (.int k (.negSucc .zero))) (fun m => some (.int k (.negSucc (.succ m)))))
/-- the least number above a kind's range, and the number of its negative ones -/
def top (k : IntKind) : Nat := IntKind.rec (motive := fun _ => Nat) (nat_lit 128) (nat_lit 32768) (nat_lit 2147483648) (nat_lit 9223372036854775808) (nat_lit 256) (nat_lit 65536) (nat_lit 4294967296) (nat_lit 18446744073709551616) k
def bot (k : IntKind) : Nat := IntKind.rec (motive := fun _ => Nat) (nat_lit 128) (nat_lit 32768) (nat_lit 2147483648) (nat_lit 9223372036854775808) (nat_lit 0) (nat_lit 0) (nat_lit 0) (nat_lit 0) k
def kc (k : IntKind) : Nat := IntKind.rec (motive := fun _ => Nat) (nat_lit 0) (nat_lit 1) (nat_lit 2) (nat_lit 3) (nat_lit 4) (nat_lit 5) (nat_lit 6) (nat_lit 7) k
/-- the number wrapped, evaluated -/
def mkW (k : IntKind) (n : Int) : Option AV := iE n (fun m => bE (Nat.ble (.succ m) (top k)) (nE m (some (.int k (.ofNat .zero))) (fun m => some (.int k (.ofNat (.succ m))))) (mkInt k (k.wrap n)))
  (fun m => bE (Nat.ble (.succ m) (bot k)) (nE m (some (.int k (.negSucc .zero))) (fun m => some (.int k (.negSucc (.succ m))))) (mkInt k (k.wrap n)))
def ilt (a b : Int) : Bool := iE a (fun m => iE b (fun n => Nat.ble (.succ m) n) (fun _ => false)) (fun m => iE b (fun _ => true) (fun n => Nat.ble (.succ n) m))
def ieq (a b : Int) : Bool := iE a (fun m => iE b (fun n => Nat.beq m n) (fun _ => false)) (fun m => iE b (fun _ => false) (fun n => Nat.beq m n))
def keq (j k : IntKind) : Bool := Nat.beq (kc j) (kc k)
def quoI (k : IntKind) (a b : Int) : Option AV := bE (ieq b (.ofNat .zero)) none (mkW k (a.tdiv b))
def remI (k : IntKind) (a b : Int) : Option AV := bE (ieq b (.ofNat .zero)) none (mkInt k (a.tmod b))
def bitI (f : Nat → Nat → Nat) (k : IntKind) (a b : Int) : Option AV := iE a (fun m => iE b (fun n => mkW k (.ofNat (f m n))) (fun _ => none)) (fun _ => none)
abbrev IOp := IntKind → Int → Int → Option AV
def iNo : IOp := fun _ _ _ => none
def intBin (op : BinOp) : IOp := BinOp.rec (motive := fun _ => IOp) (fun k a b => mkW k (Int.add a b)) (fun k a b => mkW k (Int.sub a b)) (fun k a b => mkW k (Int.mul a b)) quoI remI
  (bitI Nat.land) (bitI Nat.lor) (bitI Nat.xor) iNo iNo iNo
  (fun _ a b => some (.bool (ieq a b))) (fun _ a b => some (.bool (!ieq a b))) (fun _ a b => some (.bool (ilt a b))) (fun _ a b => some (.bool (!ilt b a))) (fun _ a b => some (.bool (ilt b a))) (fun _ a b => some (.bool (!ilt a b))) op
def shlI (k : IntKind) (a : Int) (n : Nat) : Option AV := mkW k (Int.mul a (.ofNat (Nat.pow (nat_lit 2) (min n k.bits))))
def shrI (k : IntKind) (a : Int) (n : Nat) : Option AV := iE a (fun m => mkInt k (.ofNat (Nat.div m (Nat.pow 2 (min n k.bits))))) (fun m => mkInt k (.negSucc (Nat.div m (Nat.pow 2 (min n k.bits)))))
def seq (a : List Nat) : List Nat → Bool := List.rec (motive := fun _ => List Nat → Bool) (fun b => lE b true (fun _ _ => false))
  (fun x _ ih b => lE b false (fun y r => bE (Nat.beq x y) (ih r) false)) a
def slt (a : List Nat) : List Nat → Bool := List.rec (motive := fun _ => List Nat → Bool) (fun b => lE b false (fun _ _ => true))
  (fun x _ ih b => lE b false (fun y r => bE (Nat.ble (.succ x) y) true (bE (Nat.beq x y) (ih r) false))) a
def strBin (op : BinOp) (a b : List Nat) : Option AV := match op with
  | .add => bE (Nat.ble (Nat.add (len a) (len b)) (nat_lit 1073741824)) (some (.str (a ++ b))) none
  | .eql => some (.bool (seq a b))
  | .neq => some (.bool (!seq a b))
  | .lss => some (.bool (slt a b))
  | .leq => some (.bool (slt a b || seq a b))
  | .gtr => some (.bool (!(slt a b || seq a b)))
  | .geq => some (.bool (!slt a b))
  | _ => none
def beqB (a b : Bool) : Bool := bE a b (!b)
/-- two cells of plain kinds -/
def ceq : AV → AV → Option Bool
  | .bool a, .bool b => some (beqB a b)
  | .int j a, .int k b => bE (keq j k) (some (ieq a b)) none
  | .str a, .str b => some (seq a b)
  | _, _ => none
def ceqs (a : List AV) : List AV → Option Bool := List.rec (motive := fun _ => List AV → Option Bool) (fun b => lE b (some true) (fun _ _ => none))
  (fun x _ ih b => lE b none (fun y r => oE (ceq x y) none (fun p => oE (ih r) none (fun q => some (p && q))))) a
def shp1 : AV → AV → Bool
  | .bool _, .bool _ => true
  | .int j _, .int k _ => keq j k
  | .str _, .str _ => true
  | _, _ => false
def shp (z : List AV) : List AV → Bool := List.rec (motive := fun _ => List AV → Bool) (fun b => lE b true (fun _ _ => false))
  (fun x _ ih b => lE b false (fun y r => bE (shp1 x y) (ih r) false)) z
def eqD (eq : Bool) (z : List AV) : TD → AV → AV → Option Bool
  | .bool, .bool a, .bool b => some (beqB a b)
  | .st _, .agg x, .agg y => bE eq (bE (shp z x) (ceqs x y) none) none
  | .arr _ _, .agg x, .agg y => bE eq (bE (shp z x) (ceqs x y) none) none
  | .ptr, .nilp, .nilp => some true
  | .ptr, .nilp, .ptr _ _ => some false
  | .ptr, .ptr _ _, .nilp => some false
  | .sl _, .nils, .nils => some true
  | .sl _, .nils, .sl _ _ _ _ => some false
  | .sl _, .sl _ _ _ _, .nils => some false
  | .map _ _, .nilm, .nilm => some true
  | .map _ _, .nilm, .map _ => some false
  | .map _ _, .map _, .nilm => some false
  | .fn, .nilf, .nilf => some true
  | .fn, .nilf, .fn _ _ _ => some false
  | .fn, .fn _ _ _, .nilf => some false
  | _, _, _ => none
def eqv (E : Env) (t : Nat) (x y : AV) : Option Bool := oE (E.ty.get t) none (fun ti => eqD ti.eq ti.z ti.d x y)
def binV (E : Env) (op : BinOp) (t : Nat) (x y : AV) : Option AV := match op with
  | .eql => oE (eqv E t x y) none (fun b => some (.bool b))
  | .neq => oE (eqv E t x y) none (fun b => some (.bool (!b)))
  | _ => none
abbrev JOp := IntKind → Int → IntKind → Int → Option AV
def same (f : IOp) : JOp := fun k a j b => bE (keq k j) (f k a b) none
def shl2 : JOp := fun k a _ b => iE b (shlI k a) (fun _ => none)
def shr2 : JOp := fun k a _ b => iE b (shrI k a) (fun _ => none)
def intOp (op : BinOp) : JOp := BinOp.rec (motive := fun _ => JOp) (same (intBin .add)) (same (intBin .sub)) (same (intBin .mul)) (same (intBin .quo)) (same (intBin .rem)) (same (intBin .and)) (same (intBin .or)) (same (intBin .xor)) shl2 shr2 (same (intBin .andNot))
  (same (intBin .eql)) (same (intBin .neq)) (same (intBin .lss)) (same (intBin .leq)) (same (intBin .gtr)) (same (intBin .geq)) op
/-! what is known in part: a number between bounds, a string that is none of some -/
def loB (lo : Option Int) (f : Int → Bool) : Bool := oE lo false f
def belowR (lo : Option Int) (n : Int) : Bool := loB lo (fun l => ilt n l)
def aboveR (hi : Option Int) (n : Int) : Bool := loB hi (fun h => ilt h n)
def atLo (lo : Option Int) (n : Int) : Bool := loB lo (fun l => !ilt l n)
def atHi (hi : Option Int) (n : Int) : Bool := loB hi (fun h => !ilt n h)
def yesNo (a b : Bool) : Option AV := bE a (some (.bool true)) (bE b (some (.bool false)) none)
/-- a number between lo and hi beside the number n -/
def rngC (op : BinOp) (lo hi : Option Int) (n : Int) : Option AV := match op with
  | .eql => yesNo false (belowR lo n || aboveR hi n)
  | .neq => yesNo (belowR lo n || aboveR hi n) false
  | .lss => yesNo (aboveR hi n) (atLo lo n)
  | .leq => yesNo (atHi hi n) (belowR lo n)
  | .gtr => yesNo (belowR lo n) (atHi hi n)
  | .geq => yesNo (atLo lo n) (aboveR hi n)
  | _ => none
def flipC (op : BinOp) : BinOp := match op with
  | .lss => .gtr
  | .leq => .geq
  | .gtr => .lss
  | .geq => .leq
  | op => op
def memS (c : List Nat) (l : List (List Nat)) : Bool := List.rec (motive := fun _ => Bool) false (fun x _ ih => bE (seq x c) true ih) l
def snotC (op : BinOp) (ne : List (List Nat)) (c : List Nat) : Option AV := match op with
  | .eql => yesNo false (memS c ne)
  | .neq => yesNo (memS c ne) false
  | _ => none
/-- two values of which the order is known -/
def ordC (op : BinOp) (s : Int) : Option AV := match op with
  | .eql => some (.bool (ieq s (.ofNat .zero)))
  | .neq => some (.bool (!ieq s (.ofNat .zero)))
  | .lss => some (.bool (ilt s (.ofNat .zero)))
  | .leq => some (.bool (!ilt (.ofNat .zero) s))
  | .gtr => some (.bool (ilt (.ofNat .zero) s))
  | .geq => some (.bool (!ilt s (.ofNat .zero)))
  | _ => none
/-- the order of two values that are known beside the same third one -/
def ordS (r q : Int) : Option Int := bE (ieq q (.ofNat .zero)) (some r) (bE (ieq r (.ofNat .zero)) (some (Int.neg q)) none)
/-! arithmetic on what is known in part -/
def inR (a : Int) : Bool := ilt (.negSucc (nat_lit 4611686018427387904)) a && ilt a (.ofNat (nat_lit 4611686018427387904))
def rAdd (lo hi : Option Int) (a b : Int) : Option AV := oE lo none (fun l => oE hi none (fun h => bE (inR (Int.add l a) && inR (Int.add h b)) (some (.rng .i64 (some (Int.add l a)) (some (Int.add h b)))) none))
def isAdd (op : BinOp) : Bool := match op with
  | .add => true
  | _ => false
def posR (lo : Option Int) (n : Int) : Option AV := iE n (fun d => nE d none (fun d => oE lo none (fun l => bE (ilt l (.ofNat .zero)) none (some (.rng .i64 (some (.ofNat .zero)) (some (.ofNat d))))))) (fun _ => none)
def rngA (op : BinOp) (lo hi : Option Int) (n : Int) : Option AV := match op with
  | .add => rAdd lo hi n n
  | .sub => rAdd lo hi (Int.neg n) (Int.neg n)
  | .rem => posR lo n
  | _ => none
def congC (op : BinOp) (m r : Nat) (n : Int) : Option AV := match op with
  | .rem => iE n (fun d => nE d none (fun d' => bE (Nat.beq (Nat.mod m (.succ d')) .zero) (fN (Nat.mod r (.succ d')) (fun q => some (.int .i64 (.ofNat q)))) (some (.rng .i64 (some (.ofNat .zero)) (some (.ofNat d')))))) (fun _ => none)
  | _ => none
def binX (op : BinOp) : AV → AV → Option AV
  | .cong m r, .int j n => bE (keq j .i64) (congC op m r n) none
  | .rng k a b, .rng j c d => bE (keq k .i64 && keq j .i64 && isAdd op) (oE c none (fun c => oE d none (fun d => rAdd a b c d))) none
  | .ordv i r, .ordv j q => bE (Nat.beq i j) (oE (ordS r q) none (ordC op)) none
  | .rng k lo hi, .int j n => bE (keq k j) (oE (rngC op lo hi n) (bE (keq k .i64) (rngA op lo hi n) none) some) none
  | .int j n, .rng k lo hi => bE (keq k j) (oE (rngC (flipC op) lo hi n) (bE (keq k .i64 && isAdd op) (rAdd lo hi n n) none) some) none
  | .snot ne _ _, .str c => snotC op ne c
  | .str c, .snot ne _ _ => snotC op ne c
  | _, _ => none
def binW (E : Env) (op : BinOp) (t : Nat) (x y : AV) : Option AV := oE (binV E op t x y) (binX op x y) some
def binS (E : Env) (op : BinOp) (t : Nat) (x y : AV) : Option AV := oE (asStr x) (binW E op t x y) (fun a => oE (asStr y) (binX op x y) (strBin op a))
def bin (E : Env) (op : BinOp) (t : Nat) (x y : AV) : Option AV := oE (asInt x) (binS E op t x y) (fun p => oE (asInt y) (binX op x y) (fun q => pE p (fun k a => pE q (intOp op k a))))
def un : UnOp → AV → Option AV
  | .not, .bool b => some (.bool (!b))
  | .neg, .int k n => mkW k (Int.sub (.ofNat .zero) n)
  | _, _ => none

/-! memory -/
def partC (ti : TI) (c : List AV) (o : Nat) : Option AV := bE ti.agg (oE (sub c o ti.size) none (fun l => some (.agg l))) (nth c o)
def cellsAt (h : Tr AB) (n : Nat) : Option (List AV) := oE (h.get n) none (fun b => match b with
  | .cells _ c => some c
  | _ => none)
def loadC (E : Env) (h : Tr AB) (t n o : Nat) : Option AV := oE (cellsAt h n) none (fun c => oE (E.ty.get t) none (fun ti => partC ti c o))
def load (E : Env) (h : Tr AB) (t : Nat) (v : AV) : Option AV := oE (asPtr v) none (fun p => pE p (loadC E h t))
def note (b n : Nat) (wl : List Nat) : List Nat := bE (Nat.ble (.succ n) b) (bE (mem n wl) wl (n :: wl)) wl
/-- a result, its parts evaluated; tl: the old blocks that were turned -/
def outH (h : Tr AB) : AV → Nat → List Nat → Out := Tr.rec (motive := fun _ => AV → Nat → List Nat → Out) (fun v c tl => .ok v .lf c tl) (fun l y r _ _ v c tl => .ok v (.nd l y r) c tl) h
def out (v : AV) (h : Tr AB) (c : Nat) (tl : List Nat) : Out := outH h v c tl
def okE {β : Type} (r : Out) (n : β) (s : AV → Tr AB → Nat → List Nat → β) : β := Out.rec (motive := fun _ => β) n s r
def sE {β : Type} (s : St) (f : Tr AV → Tr AB → Nat → Nat → List Nat → β) : β := St.rec (motive := fun _ => β) f s
def newN (c : Nat) : Tr AB → AB → (Nat → AV) → List Nat → Out := Nat.rec (motive := fun _ => Tr AB → AB → (Nat → AV) → List Nat → Out) (fun h o f tl => out (f .zero) (h.set .zero o) (.succ .zero) tl)
  (fun c _ h o f tl => out (f (.succ c)) (h.set (.succ c) o) (.succ (.succ c)) tl) c
def newO (s : St) (o : AB) (f : Nat → AV) : Out := sE s (fun _ h c _ _ => newN c h o f [])
def new (s : St) (k : BK) (c : List AV) (f : Nat → AV) : Out := newO s (.cells k c) f
def pure (s : St) (v : AV) : Out := sE s (fun _ h c _ _ => .ok v h c [])
def pureO (s : St) (v : Option AV) : Out := oE v .no (pure s)
/-- the heap turned at one block -/
def upd (s : St) (v : AV) (n : Nat) (o : AB) : Out := sE s (fun _ h c _ _ => out v (h.set n o) c [n])
/-- the cells of a block that may be written, and its kind -/
def wcells (h : Tr AB) (n : Nat) : Option (BK × List AV) := oE (h.get n) none (fun b => match b with
  | .cells .ro _ => none
  | .cells k c => some (k, c)
  | _ => none)
def scals (l : List AV) : Bool := List.rec (motive := fun _ => Bool) true (fun x _ ih => bE (scal x) ih false) l
def storeC (s : St) (r : AV) (n o : Nat) (vs : List AV) : Out := oE (wcells s.h n) .no (fun p => pE p (fun k c => oE (put vs o c) .no (fun c' => bE (scals vs) (upd s r n (.cells k c')) .no)))
def store (E : Env) (s : St) (t : Nat) (v p : AV) : Out := oE (asPtr p) .no (fun p => pE p (fun n o => oE (E.ty.get t) .no (fun ti => oE (cellsO v) .no (fun cs => bE (Nat.beq (len cs) ti.size) (storeC s (.tup []) n o cs) .no))))
def fill1 (c : List AV) (v : AV) (p : Nat × Nat) : Option (List AV) := pE p (fun off size => oE (cellsO v) none (fun cs => bE (Nat.beq (len cs) size) (put cs off c) none))
def fills (place : Nat → Option (Nat × Nat)) (l : List (Nat × AV)) : List AV → Option (List AV) := List.rec (motive := fun _ => List AV → Option (List AV)) some
  (fun x _ ih c => pE x (fun i v => oE (oE (place i) none (fill1 c v)) none ih)) l
def evp (t : Tr AV) (l : List (Nat × Operand)) : Option (List (Nat × AV)) := List.rec (motive := fun _ => Option (List (Nat × AV))) (some [])
  (fun x _ ih => pE x (fun i x => oE (ev t x) none (fun v => oE ih none (fun r => some ((i, v) :: r))))) l
def fieldsOf (ti : TI) : Option (List (Nat × Nat)) := match ti.d with
  | .st fs => some fs
  | _ => none
/-- a field's offset and type -/
def fieldOf (E : Env) (t f : Nat) : Option (Nat × TI) := oE (E.ty.get t) none (fun ti => oE (fieldsOf ti) none (fun fs => oE (nth fs f) none (fun p => pE p (fun ft off => oE (E.ty.get ft) none (fun fi => some (off, fi))))))
def sizeT (E : Env) (t : Nat) : Option Nat := oE (E.ty.get t) none (fun ti => some ti.size)
def placeS (E : Env) (t i : Nat) : Option (Nat × Nat) := oE (fieldOf E t i) none (fun p => pE p (fun o fi => some (o, fi.size)))
def placeA (n i : Nat) : Option (Nat × Nat) := some (Nat.mul i n, n)
def aggO (c : Option (List AV)) : Option AV := oE c none (fun c => some (.agg c))
def buildA (E : Env) (t : Nat) (ti : TI) (ps : List (Nat × AV)) : Option AV := match ti.d with
  | .st _ => aggO (fills (placeS E t) ps ti.z)
  | .arr _ e => oE (sizeT E e) none (fun n => aggO (fills (placeA n) ps ti.z))
  | _ => none
def elemI (ti : TI) : Option Nat := match ti.d with
  | .sl e => some e
  | _ => none
def elemT (E : Env) (t : Nat) : Option TI := oE (E.ty.get t) none (fun ti => oE (elemI ti) none E.ty.get)
def inN : AV → Option Nat
  | .int _ (.ofNat m) => some m
  | _ => none
def ixS (E : Env) (e n o l i : Nat) : Option AV := bE (Nat.ble (.succ i) l) (oE (sizeT E e) none (fun z => some (.ptr n (Nat.add o (Nat.mul i z))))) none
def ixA (E : Env) (i : Nat) : TD → AV → Option AV
  | .sl e, .sl n o l _ => ixS E e n o l i
  | .arr l e, .ptr n o => ixS E e n o l i
  | _, _ => none
def indexAddr (E : Env) (t : Nat) (x ix : AV) : Option AV := oE (E.ty.get t) none (fun ti => oE (inN ix) none (fun i => ixA E i ti.d x))
def u8 (b : Nat) : AV := .int .u8 (.ofNat b)
def indexD (E : Env) (i : Nat) : TD → AV → Option AV
  | .str, .str s => oE (nth s i) none (fun b => some (u8 b))
  | .arr l e, .agg c => bE (Nat.ble (.succ i) l) (oE (E.ty.get e) none (fun ei => partC ei c (Nat.mul i ei.size))) none
  | _, _ => none
def indexV (E : Env) (t i : Nat) (v : AV) : Option AV := oE (E.ty.get t) none (fun ti => indexD E i ti.d v)
def oN (t : Tr AV) (d : Nat) (x : Option Operand) : Option Nat := oE x (some d) (fun x => oE (ev t x) none inN)
/-- x[lo:hi:mx] -/
def slStr (s : List Nat) (l h : Nat) : Option AV := bE (Nat.ble l h) (bE (Nat.ble h (len s)) (oE (sub s l (Nat.sub h l)) none (fun r => some (.str r))) none) none
def slFix (n o z l h m c : Nat) : Option AV := bE (Nat.ble l h && Nat.ble h m && Nat.ble m c)
  (fN (bE (Nat.beq m l) o (Nat.add o (Nat.mul l z))) (fun o => fN (Nat.sub h l) (fun d => fN (Nat.sub m l) (fun q => some (.sl n o d (.fix q)))))) none
def slEl (n o z l h ln : Nat) (cap : Cap) : Option AV := bE (Nat.ble l h && Nat.ble h ln)
  (fN (Nat.add o (Nat.mul l z)) (fun o => fN (Nat.sub h l) (fun d => some (.sl n o d cap)))) none
def slCap (tm : Tr AV) (n o ln z l h : Nat) (mx : Option Operand) : Cap → Option AV
  | .fix c => oE (oN tm c mx) none (fun m => slFix n o z l h m c)
  | .el sz => bE (Nat.beq sz z) (oE mx (slEl n o z l h ln (.el sz)) (fun mo => oE (ev tm mo) none (fun mv => oE (inN mv) none (fun m => slFix n o z l h m ln)))) none
def slArr (n o z l h k : Nat) (mx : Option Operand) : Option AV := oE mx (slFix n o z l h k k) (fun _ => none)
def slNil (tm : Tr AV) (l : Nat) (hi mx : Option Operand) : Option AV := oE (oN tm .zero hi) none (fun h => oE (oN tm .zero mx) none (fun m => bE (Nat.beq l .zero && Nat.beq h .zero && Nat.beq m .zero) (some .nils) none))
def sliceV (E : Env) (tm : Tr AV) (l : Nat) (hi mx : Option Operand) : TD → AV → Option AV
  | .str, .str s => oE mx (oE (oN tm (len s) hi) none (slStr s l)) (fun _ => none)
  | .sl e, .nils => oE (sizeT E e) none (fun _ => slNil tm l hi mx)
  | .sl e, .sl n o ln cap => oE (sizeT E e) none (fun z => oE (oN tm ln hi) none (fun h => slCap tm n o ln z l h mx cap))
  | .arr k e, .ptr n o => oE (sizeT E e) none (fun z => oE (oN tm k hi) none (fun h => slArr n o z l h k mx))
  | _, _ => none
/-- a third bound only beside a second one -/
def okMx (hi mx : Option Operand) : Bool := oE mx true (fun _ => oE hi false (fun _ => true))
def slice (E : Env) (tm : Tr AV) (t : Nat) (x : AV) (lo hi mx : Option Operand) : Option AV := bE (okMx hi mx) (oE (oN tm .zero lo) none (fun l => oE (E.ty.get t) none (fun ti => sliceV E tm l hi mx ti.d x))) none
/-- the cells of a slice, or of a string -/
def rowOf (h : Tr AB) (z : Nat) : AV → Option (List AV)
  | .nils => some []
  | .sl n o ln _ => oE (cellsAt h n) none (fun c => sub c o (Nat.mul ln z))
  | .str s => some (s.map u8)
  | _ => none
def lenV : AV → Option Nat
  | .nils => some .zero
  | .sl _ _ l _ => some l
  | .str s => some (len s)
  | _ => none
def small (n bytes : Nat) : Bool := Nat.ble n (nat_lit 1048576) && Nat.ble bytes (nat_lit 1048576)
def appGrow (s : St) (z n o ln m : Nat) (new_ : List AV) : Out := oE (cellsAt s.h n) .no (fun cs => oE (sub cs o (Nat.mul ln z)) .no (fun old => new s .el (old ++ new_) (fun q => .sl q .zero (Nat.add ln m) (.el z))))
def elCells (h : Tr AB) (n : Nat) : Option (List AV) := oE (h.get n) none (fun b => match b with
  | .cells .el c => some c
  | _ => none)
def appIn (s : St) (z n o ln m : Nat) (sz : Nat) (cs new_ : List AV) : Out := oE (put new_ (Nat.add o (Nat.mul ln z)) cs) .no (fun cs' => upd s (.sl n o (Nat.add ln m) (.el sz)) n (.cells .el cs'))
def appMove (s : St) (z n ln m : Nat) (old new_ : List AV) : Out := okE (upd s .nils n .dead) .no (fun _ h c tl => newN c h (.cells .el (old ++ new_)) (fun q => .sl q .zero (Nat.add ln m) (.el z)) tl)
def appEl (s : St) (z n o ln m sz : Nat) (new_ : List AV) : Out := bE (Nat.beq sz z && scals new_) (oE (elCells s.h n) .no (fun cs => oE (sub cs o (Nat.mul ln z)) .no (fun old =>
  bE (Nat.ble (Nat.add o (Nat.mul (Nat.add ln m) z)) (len cs)) (appIn s z n o ln m sz cs new_) (appMove s z n ln m old new_)))) .no
def appCap (s : St) (z n o ln m : Nat) (new_ : List AV) : Cap → Out
  | .fix c => bE (Nat.ble (Nat.add ln m) c) (storeC s (.sl n o (Nat.add ln m) (.fix c)) n (Nat.add o (Nat.mul ln z)) new_) (appGrow s z n o ln m new_)
  | .el sz => appEl s z n o ln m sz new_
/-- append: m new elements with these cells -/
def appSome (s : St) (z bytes m : Nat) (new_ : List AV) : AV → Out
  | .nils => bE (small m bytes) (new s .el new_ (fun n => .sl n .zero m (.el z))) .no
  | .sl n o ln cap => bE (small (Nat.add ln m) bytes) (appCap s z n o ln m new_ cap) .no
  | _ => .no
def capOK : AV → Bool
  | .nils => true
  | .sl _ _ ln (.fix c) => Nat.ble ln c
  | .sl _ _ _ (.el _) => true
  | _ => false
def append (s : St) (z bytes m : Nat) (new_ : List AV) (x : AV) : Out := bE (Nat.beq m .zero) (bE (capOK x) (pure s x) .no) (appSome s z bytes m new_ x)
def byteOf : AV → Option Nat
  | .int .u8 (.ofNat m) => bE (Nat.ble (.succ m) (nat_lit 256)) (some m) none
  | _ => none
def strOf (l : List AV) : Option (List Nat) := List.rec (motive := fun _ => Option (List Nat)) (some []) (fun x _ ih => oE (byteOf x) none (fun b => oE ih none (fun r => some (b :: r)))) l
def isU8 : TD → Bool
  | .int .u8 => true
  | _ => false
def bytesT (E : Env) : TD → Bool
  | .sl e => oE (E.ty.get e) false (fun ei => isU8 ei.d)
  | _ => false
def convert (E : Env) (s : St) (sd : TD) : TD → AV → Out
  | .int k, .int _ n => pureO s (mkW k n)
  | .str, .str l => pure s (.str l)
  | .str, .nils => bE (bytesT E sd) (pure s (.str [])) .no
  | .str, .sl n o l c => bE (bytesT E sd) (oE (rowOf s.h 1 (.sl n o l c)) .no (fun cs => oE (strOf cs) .no (fun l => pure s (.str l)))) .no
  | _, _ => .no
/-! maps -/
/-- a key that is looked for, perhaps known in part alone, beside a key of the map -/
def ceqK (k x : AV) : Option Bool := oE (ceq k x) (oE (binX .eql k x) none asBool) some
def lookK (k : AV) (l : List (AV × AV)) : Option (Option AV) := List.rec (motive := fun _ => Option (Option AV)) (some none)
  (fun p _ ih => pE p (fun x v => oE (ceqK k x) none (fun b => bE b (some (some v)) ih))) l
def setK (k v : AV) (l : List (AV × AV)) : Option (List (AV × AV)) := List.rec (motive := fun _ => Option (List (AV × AV))) (some [(k, v)])
  (fun p r ih => pE p (fun x u => oE (ceq k x) none (fun b => bE b (some ((k, v) :: r)) (oE ih none (fun q => some ((x, u) :: q)))))) l
def keyD : TD → AV → Bool
  | .int k, .int j _ => keq k j
  | .str, .str _ => true
  | .bool, .bool _ => true
  | _, _ => false
def keyL : TD → AV → Bool
  | .int k, .rng j _ _ => keq k j
  | .str, .snot _ _ _ => true
  | d, v => keyD d v
def zeroV (ti : TI) : Option AV := bE ti.agg (some (.agg ti.z)) (nth ti.z .zero)
def entries (h : Tr AB) : AV → Option (List (AV × AV))
  | .nilm => some []
  | .map n => oE (h.get n) none (fun b => match b with
    | .amap es => some es
    | _ => none)
  | _ => none
def withOk (ok : Bool) (v : AV) (b : Bool) : AV := bE ok (.tup [v, .bool b]) v
def lookup (E : Env) (s : St) (x k : AV) (ok : Bool) : TD → Out
  | .map kt et => oE (E.ty.get kt) .no (fun ki => bE (keyL ki.d k) (oE (E.ty.get et) .no (fun ei => oE (entries s.h x) .no (fun es => oE (lookK k es) .no (fun r =>
      oE r (oE (zeroV ei) .no (fun v => pure s (withOk ok v false))) (fun v => pure s (withOk ok v true)))))) .no)
  | _ => .no
def mapUpd (E : Env) (s : St) (k v : AV) : TD → AV → Out
  | .map kt _, .map n => oE (E.ty.get kt) .no (fun ki => bE (keyD ki.d k) (oE (entries s.h (.map n)) .no (fun es => oE (setK k v es) .no (fun es' => upd s (.tup []) n (.amap es')))) .no)
  | _, _ => .no
/-! strings by runes: plain bytes alone -/
def next1 (s : St) (n : Nat) (l : List Nat) (p : Nat) : Out := oE (nth l p) (bE (Nat.beq p (len l)) (pure s (.tup [.bool false])) .no)
  (fun b => bE (Nat.ble (.succ b) (nat_lit 128)) (upd s (.tup [.bool true, .int .i64 (.ofNat p), .int .i32 (.ofNat b)]) n (.siter l (.succ p))) .no)
def next (s : St) (str : Bool) : AV → Out
  | .ptr n 0 => bE str (oE (s.h.get n) .no (fun b => match b with
    | .siter l p => next1 s n l p
    | _ => .no)) .no
  | _ => .no
def i64 (n : Nat) : AV := .int .i64 (.ofNat n)
def optI (n : Option Nat) : Option Int := oE n none (fun n => some (.ofNat n))
def lenOf (s : St) : TD → AV → Option AV
  | .str, .str l => some (i64 (len l))
  | .str, .snot _ lo hi => some (.rng .i64 (optI lo) (optI hi))
  | .sl _, .nils => some (i64 .zero)
  | .sl _, .sl _ _ l _ => some (i64 l)
  | .arr n _, _ => some (i64 n)
  | .map _ _, .nilm => some (i64 .zero)
  | .map _ _, .map n => oE (entries s.h (.map n)) none (fun es => some (i64 (len es)))
  | _, _ => none
def max1 (le : Int → Int → Bool) : AV → AV → Option AV
  | .int k a, .int _ b => some (.int k (bE (le a b) b a))
  | _, _ => none
def maxs (le : Int → Int → Bool) (l : List AV) : AV → Option AV := List.rec (motive := fun _ => AV → Option AV) some (fun x _ ih a => oE (max1 le a x) none ih) l
/-! calls without a body -/
def cmpS (a b : List Nat) : Int := bE (slt a b) (.negSucc .zero) (bE (slt b a) (.ofNat (nat_lit 1)) (.ofNat .zero))
def idx (c : Nat) (l : List Nat) : Nat → Int := List.rec (motive := fun _ => Nat → Int) (fun _ => .negSucc .zero) (fun x _ ih i => bE (Nat.beq x c) (.ofNat i) (ih (.succ i))) l
def add64 (x y c : Nat) : Option AV := bE (Nat.ble c (nat_lit 1)) (some (.tup [.int .u64 (.ofNat (Nat.mod (Nat.add (Nat.add x y) c) (nat_lit 18446744073709551616))), .int .u64 (.ofNat (Nat.div (Nat.add (Nat.add x y) c) (nat_lit 18446744073709551616)))])) none
def ext : Nat → List AV → Option AV
  | 0, [.str a, .str b] => some (.int .i64 (cmpS a b))
  | 1, [.str a, .int .u8 (.ofNat c)] => bE (Nat.ble (.succ c) (nat_lit 256)) (some (.int .i64 (idx c a .zero))) none
  | 2, [.int .u64 (.ofNat x), .int .u64 (.ofNat y), .int .u64 (.ofNat c)] => add64 x y c
  | _, _ => none

/-! operations that are no calls of a function with a body, one by one -/
def oMove (s : St) (x : Operand) : Out := pureO s (ev s.t x)
def pickB (s : St) (a b : Operand) (v : AV) : Option AV := oE (asBool v) none (fun c => bE c (ev s.t a) (ev s.t b))
def oPick (s : St) (c a b : Operand) : Out := pureO s (oE (ev s.t c) none (pickB s a b))
def ptr0 (n : Nat) : AV := .ptr n .zero
def oAlloc (E : Env) (s : St) (t : Nat) : Out := oE (E.ty.get t) .no (fun ti => new s .fix ti.z ptr0)
def oBox (s : St) (x : Operand) : Out := oE (ev s.t x) .no (fun v => oE (cellsO v) .no (fun cs => new s .fix cs ptr0))
def oBuild (E : Env) (s : St) (t : Nat) (ps : Array (Nat × Operand)) : Out := oE (evp s.t ps.toList) .no (fun l => oE (E.ty.get t) .no (fun ti => pureO s (buildA E t ti l)))
def sl0 (n q : Nat) : AV := .sl q .zero n (.fix n)
def oBuildSlice (E : Env) (s : St) (t n : Nat) (ps : Array (Nat × Operand)) : Out := oE (evp s.t ps.toList) .no (fun l => oE (elemT E t) .no (fun ei =>
  bE (Nat.ble (Nat.mul n ei.size) (nat_lit 16777216)) (oE (fills (placeA ei.size) l (reps ei.z n)) .no (fun c => new s .fix c (sl0 n))) .no))
def oLoad (E : Env) (s : St) (t : Nat) (x : Operand) : Out := oE (ev s.t x) .no (fun v => pureO s (load E s.h t v))
def oStore (E : Env) (s : St) (t : Nat) (p x : Operand) : Out := oE (ev s.t p) .no (fun a => oE (ev s.t x) .no (fun v => store E s t v a))
def notNil : AV → Option AV
  | .ptr n o => some (.ptr n o)
  | .fn f a b => some (.fn f a b)
  | _ => none
def oNil (s : St) (x : Operand) : Out := pureO s (oE (ev s.t x) none notNil)
def oBin (E : Env) (s : St) (op : BinOp) (t : Nat) (x y : Operand) : Out := oE (ev s.t x) .no (fun a => oE (ev s.t y) .no (fun b => pureO s (bin E op t a b)))
def oUn (s : St) (op : UnOp) (x : Operand) : Out := oE (ev s.t x) .no (fun a => pureO s (un op a))
def oConv (E : Env) (s : St) (a b : Nat) (x : Operand) : Out := oE (ev s.t x) .no (fun v => oE (E.ty.get a) .no (fun si => oE (E.ty.get b) .no (fun di => convert E s si.d di.d v)))
def oFunc (s : St) (first cap : Array Operand) : Fn → Out
  | .func f => oE (evs s.t first.toList) .no (fun a => oE (evs s.t cap.toList) .no (fun b => pure s (.fn f a b)))
  | _ => .no
def mkSl (s : St) (ei : TI) (ln cn : Nat) : Out := bE (Nat.ble ln cn && small cn ei.bytes) (new s .fix (reps ei.z cn) (fun q => .sl q .zero ln (.fix cn))) .no
def oMkSlice (E : Env) (s : St) (t : Nat) (l c : Operand) : Out := oE (ev s.t l) .no (fun lv => oE (ev s.t c) .no (fun cv => oE (elemT E t) .no (fun ei => oE (inN lv) .no (fun ln => oE (inN cv) .no (fun cn => mkSl s ei ln cn)))))
def oSlice (E : Env) (s : St) (t : Nat) (x : Operand) (lo hi mx : Option Operand) : Out := oE (ev s.t x) .no (fun v => pureO s (slice E s.t t v lo hi mx))
def fAddr (off sz : Nat) (v : AV) : Option AV := oE (asPtr v) none (fun p => pE p (fun n o => bE (Nat.beq sz .zero) none (fN (Nat.add o off) (fun o => some (.ptr n o)))))
def oFieldAddr (E : Env) (s : St) (t : Nat) (x : Operand) (f : Nat) : Out := oE (ev s.t x) .no (fun v => oE (fieldOf E t f) .no (fun p => pE p (fun off fi => pureO s (fAddr off fi.size v))))
def fPart (off : Nat) (fi : TI) : AV → Option AV
  | .agg c => partC fi c off
  | _ => none
def oField (E : Env) (s : St) (t : Nat) (x : Operand) (f : Nat) : Out := oE (ev s.t x) .no (fun v => oE (fieldOf E t f) .no (fun p => pE p (fun off fi => pureO s (fPart off fi v))))
def oIndexAddr (E : Env) (s : St) (t : Nat) (x i : Operand) : Out := oE (ev s.t x) .no (fun a => oE (ev s.t i) .no (fun b => pureO s (indexAddr E t a b)))
def oIndex (E : Env) (s : St) (t : Nat) (x i : Operand) : Out := oE (ev s.t x) .no (fun a => oE (ev s.t i) .no (fun b => oE (inN b) .no (fun n => pureO s (indexV E t n a))))
def oLookup (E : Env) (s : St) (t : Nat) (x k : Operand) (ok : Bool) : Out := oE (ev s.t x) .no (fun a => oE (ev s.t k) .no (fun b => oE (E.ty.get t) .no (fun ti => lookup E s a b ok ti.d)))
def oMapUpd (E : Env) (s : St) (t : Nat) (m k x : Operand) : Out := oE (ev s.t m) .no (fun a => oE (ev s.t k) .no (fun b => oE (ev s.t x) .no (fun c => oE (E.ty.get t) .no (fun ti => mapUpd E s b c ti.d a))))
def rangeV (s : St) : TD → AV → Out
  | .str, .str l => newO s (.siter l .zero) ptr0
  | _, _ => .no
def oRange (E : Env) (s : St) (t : Nat) (x : Operand) : Out := oE (ev s.t x) .no (fun v => oE (E.ty.get t) .no (fun ti => rangeV s ti.d v))
def oNext (s : St) (x : Operand) (str : Bool) : Out := oE (ev s.t x) .no (next s str)
def tupAt (i : Nat) (v : AV) : Option AV := oE (asTup v) none (fun l => nth l i)
def isConc : TD → Bool
  | .ifc => false
  | .oth => false
  | _ => true
def oIface (E : Env) (s : St) (t : Nat) (x : Operand) : Out := oE (ev s.t x) .no (fun v => oE (E.ty.get t) .no (fun ti => bE (isConc ti.d) (pure s (.iface t v)) .no))
def oExtract (s : St) (x : Operand) (i : Nat) : Out := pureO s (oE (ev s.t x) none (tupAt i))
def oLen (E : Env) (s : St) (t : Nat) (x : Operand) : Out := oE (ev s.t x) .no (fun v => oE (E.ty.get t) .no (fun ti => pureO s (lenOf s ti.d v)))
def isRow : TD → Bool
  | .sl _ => true
  | .str => true
  | _ => false
def appRow (s : St) (ei : TI) (a b : AV) : Out := oE (lenV b) .no (fun m => oE (rowOf s.h ei.size b) .no (fun cs => bE (Nat.beq (len cs) (Nat.mul m ei.size)) (append s ei.size ei.bytes m cs a) .no))
def oAppend (E : Env) (s : St) (t u : Nat) (x y : Operand) : Out := oE (ev s.t x) .no (fun a => oE (ev s.t y) .no (fun b => oE (elemT E t) .no (fun ei => oE (E.ty.get u) .no (fun ui =>
  bE (Nat.beq ei.size .zero) .no (bE (isRow ui.d) (appRow s ei a b) .no)))))
def oMax (s : St) (le : Int → Int → Bool) (l : List Operand) : Out := oE (evs s.t l) .no (fun l => lE l .no (fun a r => pureO s (maxs le r a)))
def ige (a b : Int) : Bool := ilt b a
def bi (E : Env) (s : St) : Builtin → List Operand → List TypeId → Out
  | .len, [x], [t] => oLen E s t x
  | .append, [x, y], [t, u] => oAppend E s t u x y
  | .max, l, _ => oMax s ilt l
  | .min, l, _ => oMax s ige l
  | _, _, _ => .no

/-! calls -/
inductive Res where
  | normal | exit (id : Nat) | ret
abbrev Rec := Code → St → Option (Res × St)
def params (l : List AV) : Nat → Tr AV → Tr AV := List.rec (motive := fun _ => Nat → Tr AV → Tr AV) (fun _ t => t) (fun v _ ih i t => Tr.tE (t.set i v) .lf (fun a b c => ih (.succ i) (.nd a b c))) l
def resV (E : Env) (s : St) : ResultVar → Option AV
  | .tmp i => s.t.get i
  | .cell a t => oE (s.t.get a) none (load E s.h t)
def resVs (E : Env) (s : St) (l : List ResultVar) : Option (List AV) := List.rec (motive := fun _ => Option (List AV)) (some []) (fun x _ ih => oE (resV E s x) none (fun v => oE ih none (fun r => some (v :: r)))) l
def one : List AV → AV
  | [v] => v
  | l => .tup l
def notes (b : Nat) (l : List Nat) : List Nat → List Nat := List.rec (motive := fun _ => List Nat → List Nat) (fun wl => wl) (fun n _ ih wl => ih (note b n wl)) l
def back (v : AV) (s : St) : Out := sE s (fun _ h c _ wl => out v h c wl)
def rE {β : Type} (r : Res) (n : β) (e : Nat → β) (q : β) : β := Res.rec (motive := fun _ => β) n e q r
def endV (E : Env) (fn : Func) (s : St) : Out := oE (resVs E s fn.results.toList) .no (fun l => back (one l) s)
def endF (E : Env) (fn : Func) (p : Res × St) : Out := pE p (fun r s => rE r (endV E fn s) (fun _ => .no) (endV E fn s))
def runF (E : Env) (rec : Rec) (fn : Func) (h : Tr AB) (c : Nat) (code : Code) (t : Tr AV) : Out := oE (rec code ⟨t, h, c, c, []⟩) .no (endF E fn)
/-- parameters, evaluated -/
def forceT {β : Type} (t : Tr AV) (f : Tr AV → β) : β := Tr.rec (motive := fun _ => β) (f .lf) (fun x y z _ _ => f (.nd x y z)) t
def enter (E : Env) (rec : Rec) (s : St) (args : List AV) (fn : Func) (code : Code) : Out := sE s (fun _ h c _ _ => forceT (params args .zero .lf) (runF E rec fn h c code))
/-- a result of a contract's, and new names -/
def freshO (s : St) (v : AV) (m : Nat) (o : Option (Nat × AB)) : Out := sE s (fun _ h c _ _ => fN (Nat.add c m) (fun c => oE o (.ok v h c []) (fun p => pE p (fun n b => oE (h.get n) .no (fun _ => out v (h.set n b) c [n])))))
def callF (E : Env) (rec : Rec) (s : St) (f : Nat) (args : List AV) : Out := oE (E.ext.get f)
  (oE (E.con.get f) (oE (E.fn.get f) .no (fun fn => oE fn.body .no (enter E rec s args fn))) (fun k => oE (k s.h s.c args) .no (fun p => pE p (fun v q => pE q (fun m o => freshO s v m o)))))
  (fun k => pureO s (ext k args))
def callV (E : Env) (rec : Rec) (s : St) (args : List AV) (v : AV) : Out := oE (asFn v) .no (fun p => pE p (fun f p => pE p (fun first cap => callF E rec s f (first ++ (args ++ cap)))))
def oCall (E : Env) (rec : Rec) (s : St) (x : Operand) (args : Array Operand) : Out := oE (ev s.t x) .no (fun v => oE (evs s.t args.toList) .no (fun l => callV E rec s l v))
def calleeOp (E : Env) (rec : Rec) (s : St) (c : Call) : Out := match c.callee with
  | .value x => oCall E rec s x c.args
  | .builtin b => bi E s b c.args.toList c.argTypes.toList
  | .invoke _ _ => .no
abbrev Do := Env → Rec → St → Out
def dNo : Do := fun _ _ _ => .no
def dMap (r : Option Operand) : Do := fun _ _ s => oE r (newO s (.amap []) .map) (fun _ => .no)
def disp (op : Op) : Do := Op.rec (motive := fun _ => Do)
  (fun x _ _ s => oMove s x) -- move
  (fun x _ _ s => oMove s x) -- assign
  (fun c a b _ _ s => oPick s c a b) -- pick
  (fun t E _ s => oAlloc E s t) -- alloc
  (fun _ x _ _ s => oBox s x) -- box
  (fun t ps E _ s => oBuild E s t ps) -- build
  (fun t n ps E _ s => oBuildSlice E s t n ps) -- buildSlice
  (fun t m k x E _ s => oMapUpd E s t m k x) -- insert
  (fun t x E _ s => oLoad E s t x) -- load
  (fun t p x E _ s => oStore E s t p x) -- store
  (fun _ => dNo) (fun _ => dNo) -- ready, waits
  (fun x _ _ s => oNil s x) -- nilCheck
  (fun op t x y _ E _ s => oBin E s op t x y) -- binOp
  (fun op _ x _ _ s => oUn s op x) -- unOp
  (fun a b x E _ s => oConv E s a b x) -- convert
  (fun _ _ => dNo) (fun t x E _ s => oIface E s t x) -- sliceToArrayPointer, makeInterface
  (fun f first cap _ _ s => oFunc s first cap f) -- makeFunc
  (fun _ r => dMap r) -- makeMap
  (fun _ _ => dNo) -- makeChan
  (fun t l c E _ s => oMkSlice E s t l c) -- makeSlice
  (fun t x lo hi mx E _ s => oSlice E s t x lo hi mx) -- slice
  (fun t x f E _ s => oFieldAddr E s t x f) -- fieldAddr
  (fun t x f E _ s => oField E s t x f) -- field
  (fun t x i E _ s => oIndexAddr E s t x i) -- indexAddr
  (fun t x i E _ s => oIndex E s t x i) -- index
  (fun t x k ok E _ s => oLookup E s t x k ok) -- lookup
  (fun t m k x E _ s => oMapUpd E s t m k x) -- mapUpdate
  (fun _ _ _ => dNo) (fun _ _ _ _ => dNo) -- mapEntry, entryStore
  (fun t x E _ s => oRange E s t x) -- range
  (fun x str _ _ s => oNext s x str) -- next
  (fun _ => dNo) (fun _ _ _ _ => dNo) -- entry, typeAssert
  (fun x i _ _ s => oExtract s x i) -- extract
  (fun c E rec s => calleeOp E rec s c) -- call
  (fun _ => dNo) (fun _ => dNo) (fun _ => dNo) (fun _ _ => dNo) (fun _ _ _ => dNo) (fun _ _ => dNo) op
def evalOp (E : Env) (rec : Rec) (s : St) (op : Op) : Out := disp op E rec s
/-- the state with its temporaries laid anew, evaluated -/
def putT (t : Tr AV) : Tr AB → Nat → Nat → List Nat → St := Tr.rec (motive := fun _ => Tr AB → Nat → Nat → List Nat → St) (fun h c b wl => ⟨.lf, h, c, b, wl⟩) (fun x y z _ _ h c b wl => ⟨.nd x y z, h, c, b, wl⟩) t
def putD (dst : Option Tmp) : Tr AV → AV → Tr AB → Nat → Nat → List Nat → St := Option.rec (motive := fun _ => Tr AV → AV → Tr AB → Nat → Nat → List Nat → St) (fun t _ h c b wl => ⟨t, h, c, b, wl⟩) (fun d t v h c b wl => putT (t.set d v) h c b wl) dst
/-- what was written of blocks that are older than the frame -/
def notesL (tl : List Nat) : Nat → List Nat → List Nat := List.rec (motive := fun _ => Nat → List Nat → List Nat) (fun _ wl => wl) (fun n _ ih b wl => ih b (note b n wl)) tl
def forceL {β : Type} (l : List Nat) (f : List Nat → β) : β := List.rec (motive := fun _ => β) (f []) (fun x r _ => f (x :: r)) l
def putS (s : St) (dst : Option Tmp) (v : AV) (h : Tr AB) (c : Nat) (tl : List Nat) : St := sE s (fun t _ _ b wl => forceL (notesL tl b wl) (putD dst t v h c b))
def skipS (s : St) (dst : Option Tmp) : St := sE s (fun t h c b wl => putD dst t (.tup []) h c b wl)
def putO (r : Out) : St → Option Tmp → Option St := Out.rec (motive := fun _ => St → Option Tmp → Option St) (fun _ _ => none) (fun v h c tl s dst => some (putS s dst v h c tl)) r
/-- is the operation wanted? -/
def wantV (want : Bool) (v : AV) : Option Bool := oE (asBool v) (oE (asTup v) none (fun _ => some false)) (fun b => some (beqB b want))
def wanted (ops : List Oper) (s : St) (g : Option (Nat × Bool)) : Option Bool := oE g (some true) (fun p => pE p (fun j want => oE (nth ops j) none (fun oj => oE oj.dst none (fun d => oE (s.t.get d) none (wantV want)))))
def stepOp (E : Env) (rec : Rec) (ops : List Oper) (s : St) (o : Oper) : Option St := oE o.guard (putO (disp o.op E rec s) s o.dst) (fun g => oE (wanted ops s (some g)) none (fun w => bE w (putO (disp o.op E rec s) s o.dst) (some (skipS s o.dst))))
def forceS {β : Type} (f : St → β) (s : St) : β := sE s (fun t h c b wl => f ⟨t, h, c, b, wl⟩)
def runOps (E : Env) (rec : Rec) (ops : List Oper) (l : List Oper) : St → Option St := List.rec (motive := fun _ => St → Option St) some
  (fun o _ ih s => oE (stepOp E rec ops s o) none (forceS ih)) l
def nrm (s : St) : Option (Res × St) := some (.normal, s)
/-! regions that draw their order -/
/-- kind of an operation: 0 it looks at no block, and makes none; 1 it looks at (or turns) the blocks that its operands name, or makes one; 2 a call -/
def kindC (c : Callee) : Nat := match c with
  | .value _ => 2
  | .builtin _ => 1
  | .invoke _ _ => 2
def kindOp (op : Op) : Nat := match op with
  | .move _ | .assign _ | .pick _ _ _ | .build _ _ | .nilCheck _ | .binOp _ _ _ _ _ | .unOp _ _ _ | .makeFunc _ _ _ | .slice _ _ _ _ _ | .fieldAddr _ _ _ | .field _ _ _ | .indexAddr _ _ _ | .index _ _ _ | .extract _ _ => 0
  | .call c => kindC c.callee
  | _ => 1
/-- the blocks that a value names at its head -/
def refsV (v : AV) : List Nat := oE (asPtr v) (match v with
  | .sl n _ _ _ => [n]
  | .map n => [n]
  | _ => []) (fun p => [p.1])
def refsO (t : Tr AV) (l : List Operand) : List Nat := List.rec (motive := fun _ => List Nat) [] (fun x _ ih => oE (ev t x) ih (fun v => refsV v ++ ih)) l
/-- an operation in the order in which it is evaluated: its place, itself, the places that come before it (bits), its kind -/
structure Ent where
  i : Nat
  o : Oper
  m : Nat
  k : Nat
def bit (m i : Nat) : Bool := Nat.beq (Nat.mod (Nat.div m (Nat.pow (nat_lit 2) i)) (nat_lit 2)) (nat_lit 1)
def binds (g : Ground) : Bool := match g with
  | .textOnly _ | .gcOnly _ => false
  | _ => true
def maskE (ms : List Nat) (l : List Edge) : Nat := List.rec (motive := fun _ => Nat) .zero (fun e _ ih => bE (binds e.ground) (oE (nth ms e.on) ih (fun q => Nat.lor (Nat.lor (Nat.pow (nat_lit 2) e.on) q) ih)) ih) l
/-- the masks of the operations, in the order of the text -/
def masks (l : List Oper) : List Nat → List Nat := List.rec (motive := fun _ => List Nat → List Nat) (fun ms => ms) (fun o _ ih ms => ih (ms ++ [maskE ms o.after.toList])) l
def ents (l : List Oper) : Nat → List Nat → List Ent := List.rec (motive := fun _ => Nat → List Nat → List Ent) (fun _ _ => []) (fun o _ ih i ms => lE ms [] (fun m r => ⟨i, o, m, kindOp o.op⟩ :: ih (.succ i) r)) l
/-- the first call of a list, and what it waits for, ahead of the rest -/
def firsts (m : Nat) (l : List Ent) : List Ent := l.filter (fun e => bit m e.i)
def others (m i : Nat) (l : List Ent) : List Ent := l.filter (fun e => !(bit m e.i || Nat.beq e.i i))
def orderN (n : Nat) : List Ent → List Ent := Nat.rec (motive := fun _ => List Ent → List Ent) (fun l => l)
  (fun _ ih l => oE (l.find? (fun e => Nat.beq e.k (nat_lit 2))) l (fun e => firsts e.m l ++ e :: ih (others e.m e.i l))) n
def plan (l : List Oper) : List Ent := orderN (len l) (ents l .zero (masks l []))
/-- what an operation has done: its place, is it a call, the blocks that it looks at, those that it turned, the numbers of the new ones -/
structure Rcd where
  i : Nat
  call : Bool
  r : List Nat
  w : List Nat
  c0 : Nat
  c1 : Nat
def disj (a b : List Nat) : Bool := List.rec (motive := fun _ => Bool) true (fun x _ ih => bE (mem x b) false ih) a
def outside (c0 c1 : Nat) (l : List Nat) : Bool := List.rec (motive := fun _ => Bool) true (fun x _ ih => bE (Nat.ble c0 x && Nat.ble (.succ x) c1) false ih) l
def above (c0 : Nat) (l : List Nat) : Bool := List.rec (motive := fun _ => Bool) true (fun x _ ih => bE (Nat.ble c0 x) ih false) l
/-- may two operations, the first one evaluated before the other, come in either order? -/
def compat (a b : Rcd) : Bool := disj a.w b.w && outside a.c0 a.c1 b.w && bE b.call false (disj a.w b.r && outside a.c0 a.c1 b.r) && bE a.call (above a.c0 b.w) (disj b.w a.r)
def compats (m : Nat) (b : Rcd) (l : List Rcd) : Bool := List.rec (motive := fun _ => Bool) true (fun a _ ih => bE (bit m a.i) ih (bE (compat a b) ih false)) l
def consR (b : Rcd) (l : List Rcd) : List Rcd := b :: l
/-- the record of an operation, held against those before it -/
def recd (e : Ent) (s : St) (c1 : Nat) (tl : List Nat) (l : List Rcd) : Option (List Rcd) := bE (Nat.beq e.k .zero) (some l)
  ((fun b => bE (compats e.m b l) (some (b :: l)) none) ⟨e.i, Nat.beq e.k (nat_lit 2), refsO s.t e.o.op.operands.toList, tl, s.c, c1⟩)
abbrev KD := St → List Rcd → Option St
def goD (e : Ent) (ih : KD) (r : Out) : St → List Rcd → Option St := Out.rec (motive := fun _ => St → List Rcd → Option St) (fun _ _ => none)
  (fun v h c tl s l => oE (recd e s c tl l) none (fun l' => forceS (fun s' => ih s' l') (putS s e.o.dst v h c tl))) r
def runD (E : Env) (rec : Rec) (ops : List Oper) (p : List Ent) : KD := List.rec (motive := fun _ => KD) (fun s _ => some s)
  (fun e _ ih s l => oE (wanted ops s e.o.guard) none (fun w => bE w (goD e ih (disp e.o.op E rec s) s l) (forceS (fun s' => ih s' l) (skipS s e.o.dst)))) p
def region (E : Env) (rec : Rec) (ops : List Oper) (draw : Bool) (s : St) : Option (Res × St) := bE draw (oE (runD E rec ops (plan ops) s []) none nrm) (oE (runOps E rec ops ops s) none nrm)
def seqK (rec : Rec) (b : Code) (p : Res × St) : Option (Res × St) := pE p (fun r s' => rE r (rec b s') (fun j => some (.exit j, s')) (some (.ret, s')))
def condK (rec : Rec) (a b : Code) (s : St) (v : AV) : Option (Res × St) := oE (asBool v) none (fun c => rec (bE c a b) s)
def blockK (id : Nat) (p : Res × St) : Option (Res × St) := pE p (fun r s' => rE r (some (.normal, s')) (fun j => bE (Nat.beq j id) (some (.normal, s')) (some (.exit j, s'))) (some (.ret, s')))
abbrev Run := Env → Rec → St → Option (Res × St)
def step (code : Code) : Run := Code.rec (motive := fun _ => Run)
  (fun _ _ s => nrm s) -- skip
  (fun _ ops d E rec s => region E rec ops.toList d s) -- region
  (fun a b _ _ _ rec s => oE (rec a s) none (seqK rec b)) -- seq
  (fun c a b _ _ _ rec s => oE (ev s.t c) none (condK rec a b s)) -- cond
  (fun id b _ _ rec s => oE (rec b s) none (blockK id)) -- block
  (fun b _ _ rec s => oE (rec b s) none (seqK rec (.loop b))) -- loop
  (fun _ _ _ _ _ _ _ _ _ => none) -- rangeFunc
  (fun id _ _ s => some (.exit id, s)) -- exit
  (fun _ _ _ _ _ => none) -- scope
  (fun _ _ _ s => nrm s) -- label
  (fun _ _ _ _ => none) -- goto
  (fun _ _ s => some (.ret, s)) -- ret
  (fun _ _ _ _ => none) -- refuse
  code
def exec (E : Env) (n : Nat) : Rec := Nat.rec (motive := fun _ => Rec) (fun _ _ => none) (fun _ ih code s => step code E ih s) n
def call (E : Env) (n : Nat) (f : Nat) (args : List AV) (h : Tr AB) (c : Nat) : Out := callF E (exec E n) ⟨.lf, h, c, c, []⟩ f args
end
end Go.Ab
