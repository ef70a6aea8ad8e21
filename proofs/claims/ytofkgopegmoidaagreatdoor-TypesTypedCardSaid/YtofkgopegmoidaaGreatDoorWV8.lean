/- A part of an evaluator of the program's operations over values that are known whole or in part, and of the proof that what it answers holds of the program's run. No condition. -/
import Derived.Test.YtofkgopegmoidaaGreatDoorWV6
import Derived.Test.YtofkgopegmoidaaGreatDoorWU8
import Derived.LoopN
namespace T1
open Go Go.Ab Go.Proofs
open Go.RowKit (Below)
theorem isEx_up2 {w w' : World} {T : Nat → Prop} {e : Ex} {cs : List Value} (h : IsEx w T e cs) (hT : ∀ k, T k → k < w.heap.size) (hb : Below w.heap.size w w') : IsEx w' (· < w'.heap.size) e cs :=
  h.mono (fun k hk => Nat.lt_of_lt_of_le (hT k hk) hb.size) (fun k hk => hb.block k (hT k hk))
set_option maxRecDepth 20000 in
set_option maxHeartbeats 4000000 in
theorem of24 {vs t d : Nat} {e : Ex} (h : TE vs t d e) (hd : d ≤ 6) {w : World} {cs : List Value} (h0 : 0 < w.heap.size) (hex : IsEx w (· < w.heap.size) e cs) : Calls Tryz.prog 24 #[.agg cs.toArray] w fun e' w' => e' = .returned (.tuple #[.int .i64 (t : Int), .int .i64 0]) ∧ Below w.heap.size w w' := by
  obtain ⟨op, nm, b1, m1, b2, m2, ys, sl, rfl, hsl, rfl⟩ : ∃ op nm b1 m1 b2 m2 ys sl, e = .mk op nm b1 m1 b2 m2 ys ∧ IsSl w (· < w.heap.size) ys sl ∧ cs = [.int .i64 op, .string nm, .bool b1, .string m1, .bool b2, .string m2, sl] := by
    cases hex with
    | mk hs => exact ⟨_, _, _, _, _, _, _, _, rfl, hs, rfl⟩
  obtain ⟨s0, s1, s2, rfl⟩ : ∃ a l c, sl = .slice a l c := by cases hsl <;> exact ⟨_, _, _, rfl⟩
  have hex' := IsEx.mk (op := op) (nm := nm) (b1 := b1) (m1 := m1) (b2 := b2) (m2 := m2) hsl
  go_enter Tryz.func24, Tryz.ntmps24
  go_wp2_with fail
  have hb1 := (Below.refl _ w).alloc (Nat.le_refl _) (Obj.cells #[Value.int IntKind.i64 op, Value.string nm, Value.bool b1, Value.string m1, Value.bool b2, Value.string m2, Value.slice s0 s1 s2] 30)
  refine (check57_te h hd (isEx_up2 hex' (fun k hk => hk) hb1)).mono ?_
  rintro e1 w1 ⟨rfl, hb2⟩
  have hb3 := hb1.trans (hb2.mono hb1.size)
  have c0 : ∀ j u, [Value.int IntKind.i64 op, Value.string nm, Value.bool b1, Value.string m1, Value.bool b2, Value.string m2, Value.slice s0 s1 s2][j]? = some u → w1.cell? ⟨w.heap.size, j, none⟩ = some u := fun j u hu => by
    rw [hb2.cell (p := ⟨w.heap.size, j, none⟩) (by simp)]
    exact cells_of' (alloc_new _ _) j u hu
  have c00 := c0 0 _ rfl
  have c01 := c0 1 _ rfl
  have c02 := c0 2 _ rfl
  have c03 := c0 3 _ rfl
  have c04 := c0 4 _ rfl
  have c05 := c0 5 _ rfl
  have c06 := c0 6 _ rfl
  clear c0 hb1 hb2
  go_wp2_with fail
  refine (typ_te h w1 _ (Nat.lt_of_lt_of_le h0 hb3.size) (isEx_up2 hex' (fun k hk => hk) hb3)).mono ?_
  rintro e2 w2 ⟨rfl, hb4⟩
  unfold tyR
  have hb5 := hb3.trans (hb4.mono hb3.size)
  clear hb3 hb4 hex' hsl
  go_wp2_with fail
  go_ret2
  exact ⟨rfl, hb5⟩
#print axioms of24
end T1
namespace T1
open Go Go.Ab Go.Proofs
open Go.RowKit (Below)
theorem results_ct {P : Program} {fn : Func} {p q : Tmp} {ty : TypeId} {tmps : Array Value} {w : World} {a : Addr} {v u : Value} (h : fn.results = #[.cell p ty, .tmp q]) (hp : tmps.getD p undef = .pointer (some a)) (hq : tmps.getD q undef = u) (hl : (loadVar ty a).run P w = .ok v w) :
    (results fn tmps).run P w = .ok (.tuple #[v, u]) w := by
  have hp' : tmps[p]?.getD undef = .pointer (some a) := by simpa using hp
  have hq' : tmps[q]?.getD undef = u := by simpa using hq
  simp [results, h, hp', hq', asAddr, hl]
def BindRes (t : Nat) (w : World) (e' : Ending) (w' : World) : Prop := ∃ (cs : List Value) (ex : Ex), e' = .returned (.tuple #[.agg cs.toArray, .int .i64 0]) ∧ TE 0 t 6 ex ∧ IsEx w' (· < w'.heap.size) ex cs ∧ Below w.heap.size w w'
theorem bind_end {w w' : World} {t : Nat} {op : Int} {nm : ByteArray} {b1 : Bool} {m1 : ByteArray} {b2 : Bool} {m2 : ByteArray} {ys : List Ex} {sl : Value} {a : Act} {W : World} (hW : W = w'.setCells (w.heap.size + 1) 0 [.int .i64 op, .string nm, .bool b1, .string m1, .bool b2, .string m2, sl]) (hd : a.defers = []) (hp : a.tmps.getD 6 undef = .pointer (some ⟨w.heap.size + 1, 0, none⟩)) (hq : a.tmps.getD 7 undef = .int .i64 0)
    (hb3 : Below w.heap.size w w') (_hlt : w.heap.size + 1 < w'.heap.size) (hg : TE 0 t 6 (.mk op nm b1 m1 b2 m2 ys)) (hx : IsSl w' (fun k => w.heap.size + 2 ≤ k ∧ k < w'.heap.size) ys sl) (e1 : ∀ j, j < 7 → (w'.cell? ⟨w.heap.size + 1, 0 + j, none⟩).isSome = true) :
    bodyPost Tryz.prog Tryz.f23 (BindRes t w) .ret a W := by
  subst hW
  refine bodyPost_ret (v := .tuple #[.agg [.int .i64 op, .string nm, .bool b1, .string m1, .bool b2, .string m2, sl].toArray, .int .i64 0]) (results_ct (by kernel_rfl) hp hq (load30 rfl fun j u hj => ?_)) hd ?_
  · have hj7 : j < 7 := (List.getElem?_eq_some_iff.1 hj).1
    have := World.cell?_setCells_in (w.heap.size + 1) [.int .i64 op, .string nm, .bool b1, .string m1, .bool b2, .string m2, sl] 0 w' e1 j hj7
    rw [Nat.zero_add] at this
    rw [this, ← hj, List.getElem?_eq_getElem hj7]
  · refine ⟨_, .mk op nm b1 m1 b2 m2 ys, rfl, hg, .mk (hx.mono (fun k hk => ?_) (fun k hk => ?_)), ?_⟩
    · rw [setCells_size]; exact hk.2
    · exact setCells_other _ _ _ _ _ (by have := hk.1; omega)
    · exact hb3.trans (setCells_below _ (Nat.le_succ _) _ _ _)
set_option maxRecDepth 20000 in
set_option maxHeartbeats 4000000 in
theorem bind23 {vs t i1 i2 : Nat} {e : Ex} (hi1 : 1 ≤ i1 ∧ i1 ≤ 256) (hi2 : 1 ≤ i2 ∧ i2 ≤ 256) (h : TE vs t 6 e) {w : World} {cs : List Value} {nb ib : Nat} (h0 : 0 < w.heap.size) (hex : IsEx w (· < w.heap.size) e cs) (hN : Nms nb ib i1 i2 w) :
    Calls Tryz.prog 23 #[.agg cs.toArray, .slice (some ⟨nb, 0, none⟩) 2 2, .slice (some ⟨ib, 0, none⟩) 2 2] w (BindRes t w) := by
  obtain ⟨op, nm, b1, m1, b2, m2, ys, sl, rfl, hsl, rfl⟩ : ∃ op nm b1 m1 b2 m2 ys sl, e = .mk op nm b1 m1 b2 m2 ys ∧ IsSl w (· < w.heap.size) ys sl ∧ cs = [.int .i64 op, .string nm, .bool b1, .string m1, .bool b2, .string m2, sl] := by
    cases hex with
    | mk hs => exact ⟨_, _, _, _, _, _, _, _, rfl, hs, rfl⟩
  obtain ⟨s0, s1, s2, rfl⟩ : ∃ a l c, sl = .slice a l c := by cases hsl <;> exact ⟨_, _, _, rfl⟩
  have hex' := IsEx.mk (op := op) (nm := nm) (b1 := b1) (m1 := m1) (b2 := b2) (m2 := m2) hsl
  go_enter Tryz.func23, Tryz.ntmps23
  go_wp2_with fail
  have hb2 : ∀ o1 o2, Below w.heap.size w ((w.alloc o1).alloc o2) := fun o1 o2 => ((Below.refl _ w).alloc (Nat.le_refl _) o1).alloc (by simp) o2
  have hs2 : ∀ o1 o2, ((w.alloc o1).alloc o2).heap.size = w.heap.size + 2 := fun o1 o2 => by simp
  have x1 : ∀ o1 o2, ((w.alloc o1).alloc o2).heap[w.heap.size]? = some o1 := fun o1 o2 => by rw [Below.heap_alloc _ _ _ (by simp), alloc_new]
  have x2 : ∀ o1 o2, ((w.alloc o1).alloc o2).heap[w.heap.size + 1]? = some o2 := fun o1 o2 => by
    have := alloc_new (w.alloc o1) o2
    rwa [show (w.alloc o1).heap.size = w.heap.size + 1 by simp] at this
  refine (check57_te h (Nat.le_refl _) (isEx_up2 hex' (fun k hk => hk) (hb2 _ _))).mono ?_
  rintro e1 w1 ⟨rfl, hbA⟩
  have hb3 := (hb2 _ _).trans (hbA.mono (hb2 _ _).size)
  have hsz1 := hbA.size
  rw [hs2] at hsz1 hbA
  have q0 := (hbA.block w.heap.size (by omega)).trans (x1 _ _)
  have q1 := (hbA.block (w.heap.size + 1) (by omega)).trans (x2 _ _)
  clear hbA x1 x2 hb2 hs2
  have hN1 := hN.same hb3.size (hb3.block nb hN.ln) (hb3.block ib hN.li)
  have d0 := hN1.d0
  have d1 := hN1.d1
  have c0 := fun j u hj => cells_of' q0 j u hj
  have c00 := c0 0 _ rfl
  have c01 := c0 1 _ rfl
  have c02 := c0 2 _ rfl
  have c03 := c0 3 _ rfl
  have c04 := c0 4 _ rfl
  have c05 := c0 5 _ rfl
  have c06 := c0 6 _ rfl
  clear c0 q0
  go_wp2_with fail
  refine wp_loop_rounds 3 ?_
  rw [rounds_succ]
  go_wp2_with fail
  rw [rounds_succ]
  go_wp2_with fail
  rw [rounds_succ]
  go_wp2_with fail
  refine (bnd_te hi1 hi2 h (Nat.le_refl _) w1 w.heap.size nb ib _ (by omega) (Nat.ne_of_lt hN.ln) (Nat.ne_of_lt hN.li) hN1 (hex'.mono (fun k hk => ⟨Nat.lt_of_lt_of_le hk hb3.size, Nat.ne_of_lt hk⟩) (fun k hk => hb3.block k hk))).mono ?_
  rintro e2 w2 ⟨cs, ex, rfl, hte, hex2, hbB⟩
  have hb5 := hb3.trans (hbB.mono hb3.size)
  have q2 := (hbB.block (w.heap.size + 1) (by omega)).trans q1
  have e1 := fun j u hj => cells_of' q2 j u hj
  have e2 : ∀ j, w2.frozen? ⟨w.heap.size + 1, j, none⟩ = false := fun j => by
    simp [World.frozen?, q2]
  have hsz2 := hbB.size
  cases hex2 with
  | mk hsl2 =>
    rename_i op' nm' b1' m1' b2' m2' ys' sl'
    obtain ⟨t0, t1, t2, rfl⟩ : ∃ a l c, sl' = .slice a l c := by cases hsl2 <;> exact ⟨_, _, _, rfl⟩
    have e10 := e1 0 _ rfl
    have e11 := e1 1 _ rfl
    have e12 := e1 2 _ rfl
    have e13 := e1 3 _ rfl
    have e14 := e1 4 _ rfl
    have e15 := e1 5 _ rfl
    have e16 := e1 6 _ rfl
    have e1' : ∀ j, j < 7 → (w2.cell? ⟨w.heap.size + 1, 0 + j, none⟩).isSome = true := fun j hj => by
      rw [Nat.zero_add]
      match j, hj with
      | 0, _ => rw [e10]; rfl
      | 1, _ => rw [e11]; rfl
      | 2, _ => rw [e12]; rfl
      | 3, _ => rw [e13]; rfl
      | 4, _ => rw [e14]; rfl
      | 5, _ => rw [e15]; rfl
      | 6, _ => rw [e16]; rfl
    clear e1 q1 q2 hbB hb3 hN1 d0 d1
    go_wp2
    (try simp only [Exit.inBlock, Exit.then])
    exact bind_end rfl rfl rfl rfl hb5 (by omega) hte (hsl2.mono (fun k hk => ⟨by omega, hk.2⟩) (fun _ _ => rfl)) e1'
#print axioms bind23
end T1
