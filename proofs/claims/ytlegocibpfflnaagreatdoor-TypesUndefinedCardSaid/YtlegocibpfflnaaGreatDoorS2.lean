/- A part of an evaluator of the program's operations over values that are known whole or in part, and of the proof that what it answers holds of the program's run. No condition. -/
import Derived.Test.YtlegocibpfflnaaGreatDoorS1
import Derived.Orders
import Derived.Below
namespace Go.Ab
open Go.RowKit (Below)

/-- Where a block of the evaluator's lies: the world's block, the first cell, and (of a block that append has made) the number of cells up to its end. -/
structure Loc where
  blk : Nat
  base : Nat
  K : Nat
def Loc.adr (L : Loc) (o : Nat) : Addr := ⟨L.blk, L.base + o, none⟩
abbrev Rho := Nat → Option Loc

mutual
inductive RV (ρ : Rho) : AV → Value → Prop
  | any (v : Value) : RV ρ .any v
  | bool (b : Bool) : RV ρ (.bool b) (.bool b)
  | int (k : IntKind) (n : Int) : RV ρ (.int k n) (.int k n)
  | str (s : ByteArray) : RV ρ (.str (bytesOf s)) (.string s)
  | nilp : RV ρ .nilp (.pointer none)
  | ptr (n o : Nat) (L : Loc) : ρ n = some L → RV ρ (.ptr n o) (.pointer (some (L.adr o)))
  | nils : RV ρ .nils (.slice none 0 0)
  | slf (n o l c : Nat) (L : Loc) : ρ n = some L → RV ρ (.sl n o l (.fix c)) (.slice (some (L.adr o)) l c)
  | sle (n o l z cap : Nat) (L : Loc) : ρ n = some L → o + cap * z = L.K → l ≤ cap → RV ρ (.sl n o l (.el z)) (.slice (some (L.adr o)) l cap)
  | slz (n o z : Nat) (L : Loc) (a : Addr) : ρ n = some L → o = L.K → a.spot = none → RV ρ (.sl n o 0 (.el z)) (.slice (some a) 0 0)
  | slx (n o : Nat) (a : Addr) : a.spot = none → RV ρ (.sl n o 0 (.fix 0)) (.slice (some a) 0 0)
  | nilm : RV ρ .nilm (.map none)
  | map (n : Nat) (L : Loc) : ρ n = some L → RV ρ (.map n) (.map (some L.blk))
  | nilf : RV ρ .nilf .nilFunc
  | fn (f : Nat) (a b : List AV) (x y : Array Value) : RVs ρ a x.toList → RVs ρ b y.toList → RV ρ (.fn f a b) (.func (.func f) x y)
  | nili : RV ρ .nili .nilIface
  | iface (t : Nat) (v : AV) (u : Value) : RV ρ v u → RV ρ (.iface t v) (.iface t u)
  | agg (l : List AV) (x : Array Value) : RVs ρ l x.toList → RV ρ (.agg l) (.agg x)
  | tup (l : List AV) (x : Array Value) : RVs ρ l x.toList → RV ρ (.tup l) (.tuple x)
  | rng (k : IntKind) (lo hi : Option Int) (n : Int) : (∀ l, lo = some l → l ≤ n) → (∀ h, hi = some h → n ≤ h) → RV ρ (.rng k lo hi) (.int k n)
  | snot (ne : List (List Nat)) (lo hi : Option Nat) (s : ByteArray) : (∀ c ∈ ne, bytesOf s ≠ c) → (∀ l, lo = some l → l ≤ s.size) → (∀ h, hi = some h → s.size ≤ h) → RV ρ (.snot ne lo hi) (.string s)
inductive RVs (ρ : Rho) : List AV → List Value → Prop
  | nil : RVs ρ [] []
  | cons {v : AV} {u : Value} {l : List AV} {x : List Value} : RV ρ v u → RVs ρ l x → RVs ρ (v :: l) (u :: x)
end

theorem RVs.length {ρ : Rho} : ∀ {l : List AV} {x : List Value}, RVs ρ l x → l.length = x.length
  | _, _, .nil => rfl
  | _, _, .cons _ h => by simp [h.length]
theorem RVs.get {ρ : Rho} : ∀ {l : List AV} {x : List Value}, RVs ρ l x → ∀ (i : Nat) {v : AV}, l[i]? = some v → ∃ u, x[i]? = some u ∧ RV ρ v u
  | _, _, .nil, _, _, hv => by simp at hv
  | _, _, .cons h1 _, 0, _, hv => by simp at hv; subst hv; exact ⟨_, rfl, h1⟩
  | _, _, .cons _ h2, i + 1, _, hv => h2.get i (by simpa using hv)
theorem RVs.of_get {ρ : Rho} : ∀ {l : List AV} {x : List Value}, l.length = x.length → (∀ (i : Nat) (v : AV), l[i]? = some v → ∃ u, x[i]? = some u ∧ RV ρ v u) → RVs ρ l x
  | [], [], _, _ => .nil
  | [], _ :: _, h, _ => by simp at h
  | _ :: _, [], h, _ => by simp at h
  | v :: l, u :: x, h, hg => by
    obtain ⟨u', hu, hr⟩ := hg 0 v rfl
    simp at hu; subst hu
    exact .cons hr (RVs.of_get (by simpa using h) fun i v hv => by simpa using hg (i + 1) v (by simpa using hv))
theorem RVs.append {ρ : Rho} : ∀ {l m : List AV} {x y : List Value}, RVs ρ l x → RVs ρ m y → RVs ρ (l ++ m) (x ++ y)
  | _, _, _, _, .nil, k => k
  | _, _, _, _, .cons h1 h2, k => .cons h1 (h2.append k)
theorem RVs.drop {ρ : Rho} : ∀ {l : List AV} {x : List Value} (n : Nat), RVs ρ l x → RVs ρ (l.drop n) (x.drop n)
  | _, _, 0, h => h
  | _, _, _ + 1, .nil => .nil
  | _, _, n + 1, .cons _ h2 => h2.drop n
theorem RVs.take {ρ : Rho} : ∀ {l : List AV} {x : List Value} (n : Nat), RVs ρ l x → RVs ρ (l.take n) (x.take n)
  | _, _, 0, _ => by simp; exact .nil
  | _, _, _ + 1, .nil => .nil
  | _, _, n + 1, .cons h1 h2 => .cons h1 (h2.take n)

def Rho.le (ρ ρ' : Rho) : Prop := ∀ n L, ρ n = some L → ρ' n = some L
theorem Rho.le_refl (ρ : Rho) : ρ.le ρ := fun _ _ h => h
theorem Rho.le_trans {a b c : Rho} (h : a.le b) (k : b.le c) : a.le c := fun n L e => k n L (h n L e)

mutual
theorem RV.mono {ρ ρ' : Rho} (h : ρ.le ρ') : ∀ {v : AV} {u : Value}, RV ρ v u → RV ρ' v u
  | _, _, .any v => .any v
  | _, _, .bool b => .bool b
  | _, _, .int k n => .int k n
  | _, _, .str s => .str s
  | _, _, .nilp => .nilp
  | _, _, .ptr n o L e => .ptr n o L (h _ _ e)
  | _, _, .nils => .nils
  | _, _, .slf n o l c L e => .slf n o l c L (h _ _ e)
  | _, _, .sle n o l z cap L e h1 h2 => .sle n o l z cap L (h _ _ e) h1 h2
  | _, _, .slz n o z L a e h1 h2 => .slz n o z L a (h _ _ e) h1 h2
  | _, _, .slx n o a h1 => .slx n o a h1
  | _, _, .nilm => .nilm
  | _, _, .map n L e => .map n L (h _ _ e)
  | _, _, .nilf => .nilf
  | _, _, .fn f a b x y h1 h2 => .fn f a b x y (RVs.mono h h1) (RVs.mono h h2)
  | _, _, .nili => .nili
  | _, _, .iface t v u h1 => .iface t v u (RV.mono h h1)
  | _, _, .agg l x h1 => .agg l x (RVs.mono h h1)
  | _, _, .tup l x h1 => .tup l x (RVs.mono h h1)
  | _, _, .rng k lo hi n h1 h2 => .rng k lo hi n h1 h2
  | _, _, .snot ne lo hi s h1 h2 h3 => .snot ne lo hi s h1 h2 h3
theorem RVs.mono {ρ ρ' : Rho} (h : ρ.le ρ') : ∀ {l : List AV} {x : List Value}, RVs ρ l x → RVs ρ' l x
  | _, _, .nil => .nil
  | _, _, .cons h1 h2 => .cons (RV.mono h h1) (RVs.mono h h2)
end

/-- pairs of keys and values -/
inductive RVp (ρ : Rho) : List (AV × AV) → List MapEntry → Prop
  | nil : RVp ρ [] []
  | cons {k v : AV} {e : MapEntry} {l : List (AV × AV)} {x : List MapEntry} : RV ρ k e.key → RV ρ v e.val → RVp ρ l x → RVp ρ ((k, v) :: l) (e :: x)
theorem RVp.mono {ρ ρ' : Rho} (h : ρ.le ρ') : ∀ {l : List (AV × AV)} {x : List MapEntry}, RVp ρ l x → RVp ρ' l x
  | _, _, .nil => .nil
  | _, _, .cons h1 h2 h3 => .cons (h1.mono h) (h2.mono h) (h3.mono h)

/-! The heap. -/
/-- how many cells of its block a block of the evaluator's takes up -/
def ext' (L : Loc) : BK → List AV → Nat
  | .el, _ => L.K
  | _, c => c.length
/-- A block of the evaluator's, as it lies in the world; B: the number of the first block that may be written. -/
def RB (B : Nat) (ρ : Rho) (w : World) (L : Loc) : AB → Prop
  | .cells k c => (∀ (i : Nat) (v : AV), c[i]? = some v → ∃ u, w.cell? (L.adr i) = some u ∧ RV ρ v u) ∧
      (match k with
       | .ro => True
       | .fix => B ≤ L.blk ∧ (∀ i, i < c.length → w.frozen? (L.adr i) = false)
       | .el => B ≤ L.blk ∧ c.length ≤ L.K ∧ (∀ i, i < L.K → w.frozen? (L.adr i) = false ∧ ∃ u, w.cell? (L.adr i) = some u))
  | .amap es => B ≤ L.blk ∧ ∃ x clock, w.heap[L.blk]? = some (.map x clock) ∧ RVp ρ es x.toList
  | .siter l p => B ≤ L.blk ∧ L.base = 0 ∧ ∃ s, w.heap[L.blk]? = some (.stringIter s p) ∧ bytesOf s = l
  | .dead => True
/-- Is the block one of the evaluator's own, that may be written? -/
def AB.own : AB → Bool
  | .cells .ro _ => false
  | .dead => false
  | _ => true
/-- Does a block of the evaluator's (at L) reach cell o of the world's block? A map takes up its whole block. -/
def AB.has (L : Loc) : AB → Nat → Prop
  | .cells k c, o => L.base ≤ o ∧ o < L.base + ext' L k c
  | .dead, _ => False
  | _, _ => True
abbrev Hp := Nat → Option AB
structure RH (B : Nat) (ρ : Rho) (G : Hp) (w : World) : Prop where
  blk : ∀ n o, G n = some o → ∃ L, ρ n = some L ∧ RB B ρ w L o
  dis : ∀ n m a b L M, G n = some a → G m = some b → ρ n = some L → ρ m = some M → n ≠ m → a.own = true → ∀ o, a.has L o → b.has M o → L.blk = M.blk → False
  inn : ∀ n L, ρ n = some L → L.blk < w.heap.size

theorem RB.mono {B : Nat} {ρ ρ' : Rho} (h : ρ.le ρ') {w : World} {L : Loc} {o : AB} (r : RB B ρ w L o) : RB B ρ' w L o := by
  cases o with
  | cells k c =>
    refine ⟨fun i v hv => ?_, r.2⟩
    obtain ⟨u, hu, hr⟩ := r.1 i v hv
    exact ⟨u, hu, hr.mono h⟩
  | amap es =>
    obtain ⟨h1, x, c, h2, h3⟩ := r
    exact ⟨h1, x, c, h2, h3.mono h⟩
  | siter l p => exact r
  | dead => trivial
/-- A block reads as before where its cells do. -/
theorem RB.same {B : Nat} {ρ : Rho} {w w' : World} {L : Loc} {o : AB} (r : RB B ρ w L o) (h : w'.heap[L.blk]? = w.heap[L.blk]?) : RB B ρ w' L o := by
  have hc : ∀ i, w'.cell? (L.adr i) = w.cell? (L.adr i) := fun i => by unfold World.cell? Loc.adr; simp only [h]
  have hf : ∀ i, w'.frozen? (L.adr i) = w.frozen? (L.adr i) := fun i => by unfold World.frozen? Loc.adr; simp only [h]
  cases o with
  | cells k c =>
    refine ⟨fun i v hv => by rw [hc]; exact r.1 i v hv, ?_⟩
    have := r.2
    cases k with
    | ro => trivial
    | fix => exact ⟨this.1, fun i hi => by rw [hf]; exact this.2 i hi⟩
    | el => exact ⟨this.1, this.2.1, fun i hi => by rw [hf, hc]; exact this.2.2 i hi⟩
  | amap es => exact ⟨r.1, by rw [h]; exact r.2⟩
  | siter l p => exact ⟨r.1, r.2.1, by rw [h]; exact r.2.2⟩
  | dead => trivial
/-- what of a block is read: its cells one by one -/
theorem RB.cellwise {B : Nat} {ρ : Rho} {w w' : World} {L : Loc} {k : BK} {c : List AV} (r : RB B ρ w L (.cells k c))
    (hc : ∀ o, (AB.cells k c).has L o → w'.cell? ⟨L.blk, o, none⟩ = w.cell? ⟨L.blk, o, none⟩)
    (hl : c.length ≤ ext' L k c) (hf : ∀ a : Addr, w'.frozen? a = w.frozen? a) : RB B ρ w' L (.cells k c) := by
  refine ⟨fun i v hv => ?_, ?_⟩
  · have hi : i < c.length := (List.getElem?_eq_some_iff.1 hv).1
    have := hc (L.base + i) ⟨by omega, by omega⟩
    unfold Loc.adr
    rw [this]; exact r.1 i v hv
  · have h2 := r.2
    cases k with
    | ro => trivial
    | fix => exact ⟨h2.1, fun i hi => by rw [hf]; exact h2.2 i hi⟩
    | el =>
      refine ⟨h2.1, h2.2.1, fun i hi => ?_⟩
      have := hc (L.base + i) ⟨by omega, by show L.base + i < L.base + L.K; omega⟩
      rw [hf]
      unfold Loc.adr
      rw [this]; exact h2.2.2 i hi
theorem RB.ext_le {B : Nat} {ρ : Rho} {w : World} {L : Loc} {k : BK} {c : List AV} (r : RB B ρ w L (.cells k c)) : c.length ≤ ext' L k c := by
  cases k with
  | ro => exact Nat.le_refl _
  | fix => exact Nat.le_refl _
  | el => exact r.2.2.1
end Go.Ab
