/- A part of an evaluator of the program's operations over values that are known whole or in part, and of the proof that what it answers holds of the program's run. No condition. -/
import Derived.Test.YtofkgopegmoidaaGreatDoorWS57
import Derived.WalkKit
import Derived.WalkSpells
namespace T1
open Go Go.Ab Go.Proofs
open Go.RowKit (Below)
noncomputable section
def EN : Env := ⟨fnT, tyT, exT, Tr.lf⟩
def isNumV (n : Int) (v : AV) : Bool := match v with
  | .agg [.int .i64 _, .str _, .bool b, .str m, .bool false, .str [], .nils] => beqB b (ilt n (.ofNat 0)) && seq m (mag n.natAbs)
  | _ => false
def isNum (n : Int) (r : Out) : Bool := okE r false (fun v _ _ _ => isNumV n v)
def chkN (n : Int) : Bool := isNum n (enter EN (exec EN 2000) ⟨.lf, .lf, 0, 0, []⟩ [.int .i64 n] Tryz.f83 (bodyOf Tryz.f83))
set_option maxRecDepth 100000 in
theorem nAll : allB chkN ints = true := by kernel_rfl
theorem conLf_ok {P : Program} {I : Inv} : ConOK P Tr.lf I := fun f k hk => (by simp at hk)
theorem isNum_eq {n : Int} {r : Out} (h : isNum n r = true) : ∃ op nm h' c tl, r = .ok (.agg [.int .i64 op, .str nm, .bool (decide (n < 0)), .str (mag n.natAbs), .bool false, .str [], .nils]) h' c tl := by
  cases r with
  | no => cases h
  | ok v h' c tl =>
    have h1 : isNumV n v = true := h
    clear h
    unfold isNumV at h1
    split at h1
    · rename_i op nm b m
      rw [Bool.and_eq_true, ilt_eq] at h1
      have hm := (seq_iff _ _).1 h1.2
      have hb : b = decide (n < 0) := by
        have h2 : beqB b (decide (n < 0)) = true := h1.1
        cases b <;> cases hd : decide (n < 0) <;> rw [hd] at h2 <;> first | rfl | cases h2
      subst hm; subst hb
      exact ⟨op, nm, h', c, tl, rfl⟩
    · cases h1
theorem numSpec : NumSpec := by
  intro n h1 h2 w h0
  obtain ⟨op, nm, h', c, tl, hok⟩ := isNum_eq (allB_ok nAll n (ints_has h1 h2))
  refine run_gen (E := EN) (I := invP) (B := w.heap.size) (ρ := fun _ => none) (G := fun _ => none) (xs := [_]) ⟨envOK_con _, invP_ok, conLf_ok⟩ bodyOK fn83 body83 hok (.cons (.int _ _) .nil)
    ⟨fun _ _ h => (by cases h), fun _ _ _ _ _ _ h => (by cases h), fun n L h => (by cases h)⟩ h0 (Nat.le_refl _) (fun _ _ => by simp) (fun _ _ _ => rfl) (fun _ _ h => by simp at h) fun u ρ' G' w' A _ => ?_
  have hu := A.rv
  cases hu with
  | agg _ X hX =>
    obtain ⟨X⟩ := X
    match X, hX with
    | [x0, x1, x2, x3, x4, x5, x6], .cons r0 (.cons r1 (.cons r2 (.cons r3 (.cons r4 (.cons r5 (.cons r6 .nil)))))) =>
      cases r0; cases r2; cases r4; cases r6
      obtain ⟨s1, rfl, _⟩ := rv_str r1
      obtain ⟨s3, rfl, e3⟩ := rv_str r3
      obtain ⟨s5, rfl, e5⟩ := rv_str r5
      refine ⟨_, .mk op s1 (decide (n < 0)) s3 false s5 [], rfl, .mk (by simp) ⟨n, h1, h2, rfl, ?_, rfl, e5⟩ (fun _ h => by simp at h), .mk .nil, A.bel⟩
      rw [e3]
      by_cases hn : n = 0
      · subst hn; rfl
      · rw [if_neg hn]
        obtain ⟨k, hk⟩ : ∃ k, n.natAbs = k + 1 := ⟨n.natAbs - 1, by omega⟩
        rw [hk]; rfl
theorem grow45' {t d : Nat} (h : okTD t d = true) : GrowSpec t d := grow45 numSpec h
end
#print axioms grow45'
end T1
namespace T1
open Go Go.Ab Go.Proofs
open Go.RowKit (Below)
/-- a slice of small numbers that can be read -/
def U8r (w : World) (sl : Value) : Prop := (∃ a c, sl = .slice a 0 c) ∨ ∃ b off l c, sl = .slice (some ⟨b, off, none⟩) l c ∧ l ≤ c ∧ b < w.heap.size ∧ ∀ i, i < l → ∃ x : Nat, x ≤ 255 ∧ w.cell? ⟨b, off + i, none⟩ = some (.int .u8 x)
theorem U8r.below {w w' : World} {sl : Value} (h : U8r w sl) (hb : Below w.heap.size w w') : U8r w' sl := by
  rcases h with h | ⟨b, off, l, c, h1, h2, h3, h4⟩
  · exact .inl h
  · exact .inr ⟨b, off, l, c, h1, h2, Nat.lt_of_lt_of_le h3 hb.size, fun i hi => by
      obtain ⟨x, h5, h6⟩ := h4 i hi
      exact ⟨x, h5, by rw [World.cell?_of_block (w := w) (hb.block b h3)]; exact h6⟩⟩
theorem U8r.u8s {w : World} {sl : Value} {gb : Nat} {w2 : World} (h : U8r w sl) (hb : Below w.heap.size w w2) (hg : w.heap.size ≤ gb) : U8s w2 gb sl := by
  rcases h with h | ⟨b, off, l, c, h1, h2, h3, h4⟩
  · exact .inl h
  · exact .inr ⟨b, off, l, c, h1, h2, Nat.lt_of_lt_of_le h3 hb.size, by omega, fun i hi => by
      obtain ⟨x, h5, h6⟩ := h4 i hi
      exact ⟨x, h5, by rw [World.cell?_of_block (w := w) (hb.block b h3)]; exact h6⟩⟩
def GrownRes (w : World) (e : Ending) (w' : World) : Prop := ∃ (cs : List Value) (ex : Ex), e = .returned (.agg cs.toArray) ∧ Good ex ∧ IsEx w' (fun k => w.heap.size ≤ k ∧ k < w'.heap.size) ex cs ∧ Below w.heap.size w w'
theorem alloc_new (w : World) (o : Obj) : (w.alloc o).heap[w.heap.size]? = some o := by
  show (w.heap.push o)[w.heap.size]? = some o
  simp
theorem ty30 : (tyT.get 30).map (fun ti => (ti.agg, ti.size)) = some (true, 7) := by kernel_rfl
theorem load30 {w : World} {g : Nat} {xs : List Value} (hl : xs.length = 7) (hc : ∀ (j : Nat) (u : Value), xs[j]? = some u → w.cell? ⟨g, j, none⟩ = some u) : (loadVar 30 ⟨g, 0, none⟩).run Tryz.prog w = .ok (.agg xs.toArray) w := by
  have h := ty30
  rw [Option.map_eq_some_iff] at h
  obtain ⟨ti, h1, h2⟩ := h
  have ht := envOK.ty 30 ti h1
  have ha : ti.agg = true := congrArg Prod.fst h2
  have hs : ti.size = 7 := congrArg Prod.snd h2
  have hag := ht.isAgg (w := w)
  have hsz := ht.size (w := w)
  rw [ha] at hag
  rw [hs] at hsz
  have := run_loadCells_list (P := Tryz.prog) w ⟨g, 0, none⟩ xs fun j v hj => by
    have := hc j v hj
    rw [show (Addr.mk g 0 none).add j = ⟨g, j, none⟩ by unfold Addr.add; by_cases h0 : j = 0 <;> simp [h0]]; exact this
  rw [hl] at this
  simp only [loadVar, Sem.run_bind, hag, Result.andThen_ok]
  simp [hsz, this]
theorem results_cell {P : Program} {fn : Func} {p : Tmp} {ty : TypeId} {tmps : Array Value} {w : World} {a : Addr} {v : Value} (h : fn.results = #[.cell p ty]) (hp : tmps.getD p undef = .pointer (some a)) (hl : (loadVar ty a).run P w = .ok v w) :
    (results fn tmps).run P w = .ok v w := by
  have hp' : tmps[p]?.getD undef = .pointer (some a) := by simpa using hp
  simp [results, h, hp', asAddr, hl]
/-- Grow's end: the result lies in its variable -/
theorem grow_end {w w' : World} {op : Int} {nm : ByteArray} {b1 : Bool} {m1 : ByteArray} {b2 : Bool} {m2 : ByteArray} {ys : List Ex} {sl : Value} {a : Act} {W : World} (hW : W = w'.setCells w.heap.size 0 [.int .i64 op, .string nm, .bool b1, .string m1, .bool b2, .string m2, sl]) (hd : a.defers = []) (hp : a.tmps.getD 6 undef = .pointer (some ⟨w.heap.size, 0, none⟩))
    (hb3 : Below w.heap.size w w') (_hlt : w.heap.size < w'.heap.size) (hg : Good (.mk op nm b1 m1 b2 m2 ys)) (hx : IsSl w' (fun k => w.heap.size + 2 ≤ k ∧ k < w'.heap.size) ys sl) (e1 : ∀ j, j < 7 → (w'.cell? ⟨w.heap.size, 0 + j, none⟩).isSome = true) :
    bodyPost Tryz.prog Tryz.f10 (GrownRes w) .ret a W := by
  subst hW
  refine bodyPost_ret (v := .agg [.int .i64 op, .string nm, .bool b1, .string m1, .bool b2, .string m2, sl].toArray) (results_cell (by kernel_rfl) hp (load30 rfl fun j u hj => ?_)) hd ?_
  · have hj7 : j < 7 := (List.getElem?_eq_some_iff.1 hj).1
    have := World.cell?_setCells_in w.heap.size [.int .i64 op, .string nm, .bool b1, .string m1, .bool b2, .string m2, sl] 0 w' e1 j hj7
    rw [Nat.zero_add] at this
    rw [this, ← hj, List.getElem?_eq_getElem hj7]
  · refine ⟨_, .mk op nm b1 m1 b2 m2 ys, rfl, hg, .mk (hx.mono (fun k hk => ?_) (fun k hk => ?_)), ?_⟩
    · exact ⟨by have := hk.1; omega, by rw [setCells_size]; exact hk.2⟩
    · exact setCells_other _ _ _ _ _ (by have := hk.1; omega)
    · exact hb3.trans (setCells_below _ (Nat.le_refl _) _ _ _)
set_option maxHeartbeats 4000000 in
theorem grow10 (a : Option Addr) (l c : Nat) (w : World) (hsl : U8r w (.slice a l c)) :
    Calls Tryz.prog 10 #[.int .i64 1, .slice a l c, .slice none 0 0] w (GrownRes w) := by
  go_enter Tryz.func10, Tryz.ntmps10
  go_wp2_with fail
  have hb2 : ∀ o1 o2, Below w.heap.size w ((w.alloc o1).alloc o2) := fun o1 o2 => ((Below.refl _ w).alloc (Nat.le_refl _) o1).alloc (by simp) o2
  have hs1 : ∀ o1, (w.alloc o1).heap.size = w.heap.size + 1 := fun o1 => by simp
  have hs2 : ∀ o1 o2, ((w.alloc o1).alloc o2).heap.size = w.heap.size + 2 := fun o1 o2 => by simp
  refine (grow45' (t := 1) (d := 1) rfl _ _ (w.heap.size + 1) ⟨?_, Nat.le_refl _, fun _ _ _ => rfl⟩ ?_).mono ?_
  · simp
  · refine ⟨.slice a l c, ?_, ?_, ?_, hsl.u8s (hb2 _ _) (Nat.le_succ _)⟩
    · rw [← hs1]; exact World.cell?_alloc_new _ _ _ _
    · rw [← hs1]; exact World.cell?_alloc_new _ _ _ _
    · rw [← hs1]; exact World.frozen?_alloc_new _ _ _ _
  · rintro e w' ⟨cs, ex, rfl, hg, hex, hbel, hsz, hold, hgs⟩
    have hblk := hold w.heap.size (by rw [hs2]; omega) (by omega)
    cases hex with
    | mk hsl' =>
      rename_i op nm b1 m1 b2 m2 ys sl
      obtain ⟨s0, s1, s2, rfl⟩ : ∃ a l c, sl = .slice a l c := by cases hsl' <;> exact ⟨_, _, _, rfl⟩
      rw [Below.heap_alloc _ _ _ (by simp), alloc_new] at hblk
      have e1 : ∀ j, w'.cell? ⟨w.heap.size, j, none⟩ = (#[Value.int IntKind.i64 0, Value.string { data := #[] }, Value.bool false, Value.string { data := #[] }, Value.bool false, Value.string { data := #[] }, Value.slice none 0 0] : Array Value)[j]? := fun j => by
        simp [World.cell?, hblk]
      have e2 : ∀ j, w'.frozen? ⟨w.heap.size, j, none⟩ = false := fun j => by
        simp [World.frozen?, hblk]
      have e10 := e1 0
      have e11 := e1 1
      have e12 := e1 2
      have e13 := e1 3
      have e14 := e1 4
      have e15 := e1 5
      have e16 := e1 6
      simp at e10 e11 e12 e13 e14 e15 e16
      have hlt : w.heap.size < w'.heap.size := by simp at hsz; omega
      have hb3 : Below w.heap.size w w' := (hb2 _ _).trans (hbel.mono (Nat.le_succ _))
      have hx : IsSl w' (fun k => w.heap.size + 2 ≤ k ∧ k < w'.heap.size) ys (.slice s0 s1 s2) := hsl'.mono (fun k hk => ⟨by have := hk.1; rw [hs2] at this; exact this, hk.2⟩) (fun _ _ => rfl)
      have e1' : ∀ j, j < 7 → (w'.cell? ⟨w.heap.size, 0 + j, none⟩).isSome = true := fun j hj => by
        rw [Nat.zero_add, e1 j, Array.getElem?_eq_getElem (by exact hj)]; rfl
      clear e1 hbel hold hgs hsz hsl' hblk hs1 hs2 hb2
      go_wp2
      (try simp only [Exit.inBlock, Exit.then])
      exact grow_end rfl rfl rfl hb3 hlt hg hx e1'
#print axioms grow10
end T1
