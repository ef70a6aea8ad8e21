/- A part of an evaluator of the program's operations over values that are known whole or in part, and of the proof that what it answers holds of the program's run. No condition. -/
import Derived.Test.YtofkgopegmoidaaGreatDoorWS33
import Derived.WalkKit
import Derived.WalkSpells
namespace Go.Ab
open Go.RowKit (Below)
/-! Expressions, as they lie in memory. -/
inductive Ex where
  | mk (op : Int) (nm : ByteArray) (b1 : Bool) (m1 : ByteArray) (b2 : Bool) (m2 : ByteArray) (ys : List Ex)
mutual
/-- The seven cells of an expression; T: the blocks that its arguments lie in. -/
inductive IsEx (w : World) (T : Nat → Prop) : Ex → List Value → Prop
  | mk {op : Int} {nm : ByteArray} {b1 : Bool} {m1 : ByteArray} {b2 : Bool} {m2 : ByteArray} {ys : List Ex} {sl : Value} : IsSl w T ys sl →
      IsEx w T (.mk op nm b1 m1 b2 m2 ys) [.int .i64 op, .string nm, .bool b1, .string m1, .bool b2, .string m2, sl]
inductive IsSl (w : World) (T : Nat → Prop) : List Ex → Value → Prop
  | nil : IsSl w T [] (.slice none 0 0)
  | row {a : Ex} {ys : List Ex} {blk off c : Nat} : (a :: ys).length ≤ c → T blk → IsRow w T blk off (a :: ys) → IsSl w T (a :: ys) (.slice (some ⟨blk, off, none⟩) (a :: ys).length c)
inductive IsRow (w : World) (T : Nat → Prop) : Nat → Nat → List Ex → Prop
  | nil {blk off : Nat} : IsRow w T blk off []
  | cons {blk off : Nat} {e : Ex} {cs : List Value} {ys : List Ex} : IsEx w T e cs → (∀ (j : Nat) (u : Value), cs[j]? = some u → w.cell? ⟨blk, off + j, none⟩ = some u) → IsRow w T blk (off + 7) ys → IsRow w T blk off (e :: ys)
end
mutual
theorem IsEx.mono {w w' : World} {T T' : Nat → Prop} (hT : ∀ k, T k → T' k) (hw : ∀ k, T k → w'.heap[k]? = w.heap[k]?) : ∀ {e : Ex} {cs : List Value}, IsEx w T e cs → IsEx w' T' e cs
  | _, _, .mk h => .mk (IsSl.mono hT hw h)
theorem IsSl.mono {w w' : World} {T T' : Nat → Prop} (hT : ∀ k, T k → T' k) (hw : ∀ k, T k → w'.heap[k]? = w.heap[k]?) : ∀ {ys : List Ex} {sl : Value}, IsSl w T ys sl → IsSl w' T' ys sl
  | _, _, .nil => .nil
  | _, _, .row h1 h2 h3 => .row h1 (hT _ h2) (IsRow.mono hT hw h2 h3)
theorem IsRow.mono {w w' : World} {T T' : Nat → Prop} (hT : ∀ k, T k → T' k) (hw : ∀ k, T k → w'.heap[k]? = w.heap[k]?) : ∀ {blk off : Nat} {ys : List Ex}, T blk → IsRow w T blk off ys → IsRow w' T' blk off ys
  | _, _, _, _, .nil => .nil
  | _, _, _, h2, .cons h3 h4 h5 => .cons (IsEx.mono hT hw h3) (fun j u hu => by rw [World.cell?_of_block (w := w) (hw _ h2)]; exact h4 j u hu) (IsRow.mono hT hw h2 h5)
end
theorem IsEx.one {w : World} {T : Nat → Prop} {e : Ex} {cs : List Value} (h : IsEx w T e cs) : cs.length = 7 ∧ ∀ u ∈ cs, u.oneCell' = true := by
  cases h with
  | mk h =>
    refine ⟨rfl, fun u hu => ?_⟩
    simp only [List.mem_cons, List.mem_nil_iff, or_false] at hu
    rcases hu with rfl | rfl | rfl | rfl | rfl | rfl | rfl <;> first | rfl | (cases h <;> rfl)
/-- the cells of a row, in one list -/
theorem IsRow.vals {w : World} {T : Nat → Prop} : ∀ {blk off : Nat} {ys : List Ex}, IsRow w T blk off ys → ∃ vs : List Value, vs.length = 7 * ys.length ∧ (∀ (j : Nat) (u : Value), vs[j]? = some u → w.cell? ⟨blk, off + j, none⟩ = some u ∧ u.oneCell' = true) ∧
    ∀ (i : Nat) (e : Ex), ys[i]? = some e → ∃ cs, IsEx w T e cs ∧ ∀ j, j < 7 → vs[7 * i + j]? = cs[j]?
  | _, _, _, .nil => ⟨[], rfl, fun j u h => by simp at h, fun i e h => by simp at h⟩
  | blk, off, _, .cons (cs := cs) (ys := ys) h1 h2 h3 => by
    obtain ⟨vs, k1, k2, k3⟩ := IsRow.vals h3
    obtain ⟨l1, l2⟩ := h1.one
    refine ⟨cs ++ vs, by simp [k1, l1]; omega, fun j u hu => ?_, fun i e he => ?_⟩
    · by_cases hj : j < 7
      · rw [List.getElem?_append_left (by omega)] at hu
        exact ⟨h2 j u hu, l2 u (List.mem_of_getElem? hu)⟩
      · rw [List.getElem?_append_right (by omega), l1] at hu
        have := k2 (j - 7) u hu
        rw [show off + 7 + (j - 7) = off + j by omega] at this
        exact this
    · cases i with
      | zero =>
        simp at he; subst he
        exact ⟨cs, h1, fun j hj => by rw [List.getElem?_append_left (by omega)]; simp⟩
      | succ i =>
        obtain ⟨cs', h4, h5⟩ := k3 i e (by simpa using he)
        refine ⟨cs', h4, fun j hj => ?_⟩
        rw [List.getElem?_append_right (by omega), l1, show 7 * (i + 1) + j - 7 = 7 * i + j by omega]
        exact h5 j hj

/-! The order of expressions. -/
noncomputable section
def cmpStr (a b : ByteArray) : Int := if slt (bytesOf a) (bytesOf b) = true then -1 else if bytesOf a = bytesOf b then 0 else 1
/-- an integer of few bytes -/
def numV (b : Bool) (m : ByteArray) : Int := (if b then -1 else 1) * (m.data.toList.foldl (fun a x => a * 256 + (x.toNat : Int)) 0)
def cmpQ (b : Bool) (m : ByteArray) (b' : Bool) (m' : ByteArray) : Int := cmpI (numV b m) (numV b' m')
mutual
def cmpE : Ex → Ex → Int
  | .mk op nm b1 m1 _ _ ys, .mk op' nm' b1' m1' _ _ ys' =>
    T1.fst0 (cmpI op op' :: cmpStr nm nm' :: cmpQ b1 m1 b1' m1' :: cmpI ys.length ys'.length :: cmpL ys ys')
def cmpL : List Ex → List Ex → List Int
  | [], _ => []
  | _ :: _, [] => []
  | a :: ys, b :: bs => cmpE a b :: cmpL ys bs
end
end
end Go.Ab
namespace Go.Ab
open Go.RowKit (Below)
theorem cmpI_eq (a b : Int) : cmpI a b = if a < b then -1 else if a = b then 0 else 1 := by
  unfold cmpI
  rw [ilt_eq, ieq_eq]
  by_cases h : a < b
  · rw [if_pos h]; simp [h, bE]
  · rw [if_neg h]
    by_cases h2 : a = b
    · rw [if_pos h2]; simp [h2, bE]
    · rw [if_neg h2]
      have h3 : (a == b) = false := by simp [h2]
      simp [h, h3, bE]
def Sg (r : Int) : Prop := r = -1 ∨ r = 0 ∨ r = 1
theorem cmpI_sg (a b : Int) : Sg (cmpI a b) := by
  rw [cmpI_eq]; unfold Sg
  split
  · exact .inl rfl
  · split
    · exact .inr (.inl rfl)
    · exact .inr (.inr rfl)
theorem cmpStr_sg (a b : ByteArray) : Sg (cmpStr a b) := by
  unfold cmpStr Sg
  split
  · exact .inl rfl
  · split
    · exact .inr (.inl rfl)
    · exact .inr (.inr rfl)
theorem fst0_cons (x : Int) (l : List Int) : T1.fst0 (x :: l) = if x = 0 then T1.fst0 l else x := by
  show bE (ieq x (.ofNat .zero)) (T1.fst0 l) x = _
  rw [ieq_eq]
  by_cases h : x = 0
  · subst h; rfl
  · rw [if_neg h]
    have : (x == Int.ofNat Nat.zero) = false := by simpa using h
    rw [this]; rfl
theorem fst0_nil : T1.fst0 [] = 0 := rfl
theorem fst0_append : ∀ (l m : List Int), T1.fst0 (l ++ m) = if T1.fst0 l = 0 then T1.fst0 m else T1.fst0 l
  | [], m => by rw [List.nil_append, fst0_nil, if_pos rfl]
  | x :: l, m => by
    rw [List.cons_append, fst0_cons, fst0_cons, fst0_append l m]
    by_cases h : x = 0
    · rw [if_pos h, if_pos h]
    · rw [if_neg h, if_neg h, if_neg h]
theorem fst0_sg : ∀ {l : List Int}, (∀ x ∈ l, Sg x) → Sg (T1.fst0 l)
  | [], _ => .inr (.inl rfl)
  | x :: l, h => by
    rw [fst0_cons]
    split
    · exact fst0_sg fun y hy => h y (by simp [hy])
    · exact h x (by simp)
mutual
theorem cmpE_sg : ∀ a b : Ex, Sg (cmpE a b)
  | .mk op nm b1 m1 _ _ ys, .mk op' nm' b1' m1' _ _ ys' => by
    rw [cmpE]
    refine fst0_sg fun x hx => ?_
    simp only [List.mem_cons] at hx
    rcases hx with rfl | rfl | rfl | rfl | hx
    · exact cmpI_sg _ _
    · exact cmpStr_sg _ _
    · exact cmpI_sg _ _
    · exact cmpI_sg _ _
    · exact cmpL_sg ys ys' x hx
theorem cmpL_sg : ∀ (l m : List Ex), ∀ x ∈ cmpL l m, Sg x
  | [], _, x, hx => by simp [cmpL] at hx
  | _ :: _, [], x, hx => by simp [cmpL] at hx
  | a :: l, b :: m, x, hx => by
    rw [cmpL] at hx
    rcases List.mem_cons.1 hx with rfl | hx
    · exact cmpE_sg a b
    · exact cmpL_sg l m x hx
end
theorem cmpL_get : ∀ (l m : List Ex) (i : Nat) (r : Int), (cmpL l m)[i]? = some r → ∃ a b, l[i]? = some a ∧ m[i]? = some b ∧ r = cmpE a b
  | [], _, i, r, h => by simp [cmpL] at h
  | _ :: _, [], i, r, h => by simp [cmpL] at h
  | a :: l, b :: m, 0, r, h => by rw [cmpL] at h; simp at h; exact ⟨a, b, rfl, rfl, h.symm⟩
  | a :: l, b :: m, i + 1, r, h => by
    rw [cmpL] at h
    obtain ⟨a', b', h1, h2, h3⟩ := cmpL_get l m i r (by simpa using h)
    exact ⟨a', b', by simpa using h1, by simpa using h2, h3⟩
theorem cmpL_length : ∀ (l m : List Ex), l.length = m.length → (cmpL l m).length = l.length
  | [], _, _ => by simp [cmpL]
  | _ :: _, [], h => by simp at h
  | a :: l, b :: m, h => by rw [cmpL]; simp [cmpL_length l m (by simpa using h)]
/-- up to the first that isn't 0 -/
def trunc : List Int → List Int
  | [] => []
  | r :: l => if r = 0 then 0 :: trunc l else [r]
theorem trunc_get : ∀ (l : List Int) (i : Nat) (r : Int), (trunc l)[i]? = some r → l[i]? = some r
  | [], i, r, h => by simp [trunc] at h
  | x :: l, i, r, h => by
    rw [trunc] at h
    split at h
    · next hx =>
      subst hx
      cases i with
      | zero => simpa using h
      | succ i => simpa using trunc_get l i r (by simpa using h)
    · cases i with
      | zero => simpa using h
      | succ i => simp at h
theorem trunc_fst : ∀ l : List Int, T1.fst0 (trunc l) = T1.fst0 l
  | [] => rfl
  | x :: l => by
    rw [trunc, fst0_cons]
    split
    · rw [fst0_cons, if_pos rfl]; exact trunc_fst l
    · next h => rw [fst0_cons, if_neg h]
theorem trunc_rows : ∀ l : List Int, (∀ x ∈ l, Sg x) → trunc l ∈ T1.rows l.length
  | [], _ => by simp [trunc, T1.rows]
  | x :: l, h => by
    rw [trunc]
    have hx := h x (by simp)
    have ih := trunc_rows l fun y hy => h y (by simp [hy])
    show _ ∈ [.negSucc 0] :: [.ofNat 1] :: (T1.rows l.length).map (fun l => .ofNat 0 :: l)
    split
    · exact List.mem_cons_of_mem _ (List.mem_cons_of_mem _ (List.mem_map.2 ⟨_, ih, rfl⟩))
    · rcases hx with rfl | rfl | rfl
      · simp
      · next h => exact absurd rfl h
      · simp

/-! Names and values. -/
def vloc (v : Value) : Loc := ⟨0, 0, 0, v, 0⟩
theorem opsL_get : ∀ (k a j : Nat) (v : AV), (T1.opsL a k)[j]? = some v → v = .op (a + j) ∧ j < k
  | 0, a, j, v, h => by simp [T1.opsL] at h
  | k + 1, a, 0, v, h => by simp [T1.opsL] at h; exact ⟨h.symm, by omega⟩
  | k + 1, a, j + 1, v, h => by
    obtain ⟨h1, h2⟩ := opsL_get k (a + 1) j v (by simpa [T1.opsL] using h)
    exact ⟨by rw [h1]; congr 1; omega, by omega⟩
theorem opsL_length : ∀ (k a : Nat), (T1.opsL a k).length = k
  | 0, _ => rfl
  | k + 1, a => by simp [T1.opsL, opsL_length k (a + 1)]
theorem opsL_rv {ρ : Rho} : ∀ (k a : Nat) (vs : List Value), vs.length = k → (∀ (j : Nat) (u : Value), vs[j]? = some u → ρ (a + j) = some (vloc u) ∧ u.oneCell' = true) → RVs ρ (T1.opsL a k) vs
  | 0, a, [], _, _ => .nil
  | k + 1, a, v :: vs, hl, h => by
    have h0 := h 0 v rfl
    exact .cons (.op a (vloc v) h0.1 h0.2) (opsL_rv k (a + 1) vs (by simpa using hl) fun j u hu => by
      have := h (j + 1) u (by simpa using hu)
      rwa [show a + (j + 1) = a + 1 + j by omega] at this)
theorem asOp_eq {v : AV} {i : Nat} (h : asOp v = some i) : v = .op i := by cases v <;> cases h; rfl
theorem isOps_get : ∀ {l : List AV} {a : Nat}, isOps l a = true → ∀ (j : Nat) (v : AV), l[j]? = some v → v = .op (a + j)
  | [], _, _, j, v, h => by simp at h
  | x :: l, a, h, j, v, hv => by
    have h' : bE (oE (asOp x) false (fun i => Nat.beq i a)) (isOps l (.succ a)) false = true := h
    have h1 : oE (asOp x) false (fun i => Nat.beq i a) = true ∧ isOps l (.succ a) = true := by
      cases hb : oE (asOp x) false (fun i => Nat.beq i a) with
      | false => rw [hb] at h'; cases h'
      | true => rw [hb] at h'; exact ⟨rfl, h'⟩
    cases j with
    | zero =>
      simp at hv; subst hv
      cases ho : asOp x with
      | none => have := h1.1; rw [ho] at this; cases this
      | some i =>
        have h2 := h1.1
        rw [ho] at h2
        have h3 : i = a := beq_true h2
        rw [asOp_eq ho, h3]; rfl
    | succ j =>
      have := isOps_get h1.2 j v (by simpa using hv)
      rw [this]; congr 1; omega
/-- an aggregate of unknown cells -/
theorem opsAt_rv {ρ : Rho} {k a : Nat} {v : AV} {u : Value} (h : opsAt k v = some a) (hr : RV ρ v u) : ∃ xs : Array Value, u = .agg xs ∧ xs.size = k ∧ ∀ j, j < k → ∃ L, ρ (a + j) = some L ∧ xs[j]? = some L.val := by
  obtain ⟨l, hl, h1⟩ := oE_none_eq (show oE (asAgg v) none _ = some a from h)
  obtain rfl := asAgg_eq hl
  cases l with
  | nil => cases h1
  | cons x r =>
    obtain ⟨i, hi, h2⟩ := oE_none_eq (show oE (asOp x) none (fun a => bE (isOps (x :: r) a && Nat.beq (len (x :: r)) k) (some a) none) = some a from h1)
    obtain ⟨h3, h4⟩ := bE_none_eq h2
    cases h4
    rw [Bool.and_eq_true] at h3
    have hlen := beq_true h3.2
    rw [len_eq] at hlen
    cases hr with
    | agg l xs hx =>
      have hsz := hx.length
      refine ⟨xs, rfl, by rw [← hlen, hsz]; simp, fun j hj => ?_⟩
      have hg : (x :: r)[j]? = some (x :: r)[j] := List.getElem?_eq_getElem (by omega)
      obtain ⟨u, hu, hru⟩ := hx.get j hg
      rw [isOps_get h3.1 j _ hg] at hru
      cases hru with
      | op _ L hL h1 => exact ⟨L, hL, by simpa using hu⟩
theorem two_eq {f : AV → AV → Option AV} {l : List AV} {v : AV} (e : two f l = some v) : ∃ a b, l = [a, b] ∧ f a b = some v := by
  match l, e with
  | [a, b], e => exact ⟨a, b, rfl, e⟩
  | [], e => cases e
  | [_], e => cases e
  | _ :: _ :: _ :: _, e => cases e
theorem res0_eq {x : Option AV} {v : AV} {m : Nat} {o : Option (Nat × AB)} (h : res0 x = some (v, m, o)) : x = some v ∧ m = 0 ∧ o = none := by
  obtain ⟨u, hu, h1⟩ := oE_none_eq h
  cases h1
  exact ⟨hu, rfl, rfl⟩
theorem tab_eq {tab : List (Nat × Nat × AV)} {a b : Nat} {v : AV} (h : List.rec (motive := fun _ => Option AV) none (fun p _ ih => pE p (fun i q => pE q (fun j v => bE (Nat.beq i a && Nat.beq j b) (some v) ih))) tab = some v) : (a, b, v) ∈ tab := by
  induction tab with
  | nil => cases h
  | cons p tab ih =>
    obtain ⟨i, j, u⟩ := p
    have h' : bE (Nat.beq i a && Nat.beq j b) (some u) (List.rec (motive := fun _ => Option AV) none (fun p _ ih => pE p (fun i q => pE q (fun j v => bE (Nat.beq i a && Nat.beq j b) (some v) ih))) tab) = some v := h
    cases hb : (Nat.beq i a && Nat.beq j b) with
    | true =>
      rw [hb, bE_true] at h'
      cases h'
      rw [Bool.and_eq_true] at hb
      rw [beq_true hb.1, beq_true hb.2]
      simp
    | false =>
      rw [hb, bE_false] at h'
      exact List.mem_cons_of_mem _ (ih h')
theorem rsTab_mem : ∀ (rs : List Int) (a b x y : Nat) (v : AV), (x, y, v) ∈ T1.rsTab rs a b → ∃ i r, rs[i]? = some r ∧ x = a + 7 * i ∧ y = b + 7 * i ∧ v = i64r r
  | [], a, b, x, y, v, h => by simp [T1.rsTab] at h
  | r :: rs, a, b, x, y, v, h => by
    rw [T1.rsTab] at h
    rcases List.mem_cons.1 h with h | h
    · cases h; exact ⟨0, r, rfl, by omega, by omega, rfl⟩
    · obtain ⟨i, q, h1, h2, h3, h4⟩ := rsTab_mem rs (a + 7) (b + 7) x y v h
      exact ⟨i + 1, q, by simpa using h1, by omega, by omega, h4⟩
/-- What the runs rest on: what there was at the start stays. -/
def invC (ρ0 : Rho) (w0 : World) : Inv := fun _ ρ G w => ρ0.le ρ ∧ w0.heap.size ≤ w.heap.size ∧ (∀ k, k < w0.heap.size → w.heap[k]? = w0.heap[k]?) ∧ ∀ n o L, G n = some o → o.own = true → ρ n = some L → w0.heap.size ≤ L.blk
theorem invC_ok (ρ0 : Rho) (w0 : World) : InvOK (invC ρ0 w0) := by
  intro B ρ G w ρ' G' w' ⟨h1, h2, h3, h4⟩ st
  refine ⟨Rho.le_trans h1 st.le, Nat.le_trans h2 st.sz, fun k hk => ?_, fun n o L hg ho hl => ?_⟩
  · rw [st.fr k (by omega) fun n o L hg ho hl he => by have := h4 n o L hg ho hl; omega]
    exact h3 k hk
  · have new : ρ n = none → w0.heap.size ≤ L.blk := fun hn => by
      rcases st.nw n hn L hl with h | ⟨m, o2, M, k1, k2, k3, k4⟩
      · omega
      · rw [← k4]; exact h4 m o2 M k1 k2 k3
    rcases st.go n o hg with ⟨o1, hg1, ho1⟩ | hn
    · cases hr : ρ n with
      | none => exact new hr
      | some M =>
        have := st.le n M hr
        rw [hl] at this; cases this
        exact h4 n o1 L hg1 (ho1 ho) hr
    · exact new hn
/-- a call that only grows the world -/
theorem invC_grow {ρ0 : Rho} {w0 : World} {B : Nat} {ρ : Rho} {G : Hp} {w w' : World} (h : invC ρ0 w0 B ρ G w) (hw : Below w.heap.size w w') : invC ρ0 w0 B ρ G w' :=
  ⟨h.1, Nat.le_trans h.2.1 hw.size, fun k hk => by rw [hw.block k (Nat.lt_of_lt_of_le hk h.2.1)]; exact h.2.2.1 k hk, h.2.2.2⟩
theorem RH.grow {B : Nat} {ρ : Rho} {G : Hp} {w w' : World} (rh : RH B ρ G w) (h : Below w.heap.size w w') : RH B ρ G w' :=
  ⟨fun n o hg => by
    obtain ⟨L, hL, hr⟩ := rh.blk n o hg
    exact ⟨L, hL, hr.same (h.block _ (rh.inn n L hL))⟩, rh.dis, fun n L hL => Nat.lt_of_lt_of_le (rh.inn n L hL) h.size⟩
end Go.Ab
namespace T1
open Go Go.Ab Go.Proofs Go.RowKit
/-! cmp.Compare, walked. -/
set_option maxHeartbeats 1000000 in
theorem nan_int (a : Int) (w : World) : Calls Tryz.prog 89 #[.int .i64 a] w fun e w' => e = .returned (.bool false) ∧ w' = w := by
  go_enter Tryz.func89, Tryz.ntmps89
  go_wp2
  go_ret
  simp
set_option maxHeartbeats 1000000 in
theorem nan_str (a : ByteArray) (w : World) : Calls Tryz.prog 90 #[.string a] w fun e w' => e = .returned (.bool false) ∧ w' = w := by
  go_enter Tryz.func90, Tryz.ntmps90
  go_wp2
  go_ret
  simp
set_option maxHeartbeats 1000000 in
theorem cmp_int (a b : Int) (w : World) : Calls Tryz.prog 47 #[.int .i64 a, .int .i64 b] w fun e w' => e = .returned (.int .i64 (cmpI a b)) ∧ w' = w := by
  have key : ∀ r : Int, (a < b ∧ r = -1) ∨ (a = b ∧ r = 0) ∨ (b < a ∧ r = 1) → Calls Tryz.prog 47 #[.int .i64 a, .int .i64 b] w fun e w' => e = .returned (.int .i64 r) ∧ w' = w := by
    intro r hr
    go_enter Tryz.func47, Tryz.ntmps47
    go_wp2_with fail
    refine (nan_int a w).mono ?_
    rintro e w' ⟨rfl, rfl⟩
    go_wp2_with fail
    refine (nan_int b _).mono ?_
    rintro e w' ⟨rfl, rfl⟩
    go_wp2
    all_goals go_ret
    all_goals first
      | (obtain rfl : r = -1 := by omega
         exact ⟨rfl, rfl⟩)
      | (obtain rfl : r = 0 := by omega
         exact ⟨rfl, rfl⟩)
      | (obtain rfl : r = 1 := by omega
         exact ⟨rfl, rfl⟩)
  refine key _ ?_
  rw [cmpI_eq]
  rcases Int.lt_trichotomy a b with h | h | h
  · exact .inl ⟨h, if_pos h⟩
  · exact .inr (.inl ⟨h, by rw [if_neg (by omega), if_pos h]⟩)
  · exact .inr (.inr ⟨h, by rw [if_neg (by omega), if_neg (by omega)]⟩)
set_option maxHeartbeats 1000000 in
theorem cmp_str (a b : ByteArray) (w : World) : Calls Tryz.prog 48 #[.string a, .string b] w fun e w' => e = .returned (.int .i64 (cmpStr a b)) ∧ w' = w := by
  have hl : Op.bytesLess a.toList b.toList = slt (bytesOf a) (bytesOf b) := by rw [toList_data, toList_data]; exact (slt_eq _ _).symm
  have hg : ∀ w, (binOp .gtr 9 (.string a) (.string b)).run Tryz.prog w = .ok (.bool (!(slt (bytesOf a) (bytesOf b) || seq (bytesOf a) (bytesOf b)))) w := by
    intro w
    obtain ⟨u, h1, h2⟩ := strBin_ok (P := Tryz.prog) (w := w) (ρ := fun _ => none) (op := .gtr) (x := a) (y := b) 9 rfl
    cases h2
    exact h1
  have key : ∀ r : Int, (slt (bytesOf a) (bytesOf b) = true ∧ r = -1) ∨ (slt (bytesOf a) (bytesOf b) = false ∧ seq (bytesOf a) (bytesOf b) = true ∧ r = 0) ∨ (slt (bytesOf a) (bytesOf b) = false ∧ seq (bytesOf a) (bytesOf b) = false ∧ r = 1) →
      Calls Tryz.prog 48 #[.string a, .string b] w fun e w' => e = .returned (.int .i64 r) ∧ w' = w := by
    intro r hr
    go_enter Tryz.func48, Tryz.ntmps48
    go_wp2_with fail
    refine (nan_str a w).mono ?_
    rintro e w' ⟨rfl, rfl⟩
    go_wp2_with fail
    refine (nan_str b _).mono ?_
    rintro e w' ⟨rfl, rfl⟩
    rcases hr with ⟨k1, rfl⟩ | ⟨k1, k2, rfl⟩ | ⟨k1, k2, rfl⟩
    · rw [k1] at hl
      go_wp2
      go_ret
      exact ⟨rfl, rfl⟩
    · rw [k1] at hl
      rw [k1, k2] at hg
      go_wp2
      go_ret
      exact ⟨rfl, rfl⟩
    · rw [k1] at hl
      rw [k1, k2] at hg
      go_wp2
      go_ret
      exact ⟨rfl, rfl⟩
  refine key _ ?_
  unfold cmpStr
  cases h1 : slt (bytesOf a) (bytesOf b) with
  | true => exact .inl ⟨rfl, by simp⟩
  | false =>
    cases h2 : seq (bytesOf a) (bytesOf b) with
    | true => exact .inr (.inl ⟨rfl, rfl, by simp [(seq_iff _ _).1 h2]⟩)
    | false =>
      have h3 : bytesOf a ≠ bytesOf b := fun h => by rw [(seq_iff _ _).2 h] at h2; cases h2
      exact .inr (.inr ⟨rfl, rfl, by simp [h3]⟩)
end T1
namespace Go.Ab
open Go.RowKit (Below)
/-- a small whole number, as rational.FromInt makes it -/
def NumOK (b1 : Bool) (m1 : ByteArray) (b2 : Bool) (m2 : ByteArray) : Prop := ∃ n : Int, -3 ≤ n ∧ n ≤ 60 ∧ b1 = decide (n < 0) ∧ bytesOf m1 = (if n = 0 then [] else [n.natAbs]) ∧ b2 = false ∧ bytesOf m2 = []
inductive Good : Ex → Prop
  | mk {op : Int} {nm : ByteArray} {b1 : Bool} {m1 : ByteArray} {b2 : Bool} {m2 : ByteArray} {ys : List Ex} : ys.length ≤ 3 → NumOK b1 m1 b2 m2 → (∀ a ∈ ys, Good a) → Good (.mk op nm b1 m1 b2 m2 ys)
theorem slA_ok {w : World} {T : Nat → Prop} {ys : List Ex} {sl : Value} (h : IsSl w T ys sl) (hT : ∀ k, T k → k < w.heap.size) : ∃ (vs : List Value) (L : Option Loc), vs.length = 7 * ys.length ∧
    (∀ (j : Nat) (u : Value), vs[j]? = some u → u.oneCell' = true) ∧ (∀ (i : Nat) (e : Ex), ys[i]? = some e → ∃ cs, IsEx w T e cs ∧ ∀ j, j < 7 → vs[7 * i + j]? = cs[j]?) ∧
    (∀ M, L = some M → M.blk < w.heap.size ∧ ∀ (j : Nat) (u : Value), vs[j]? = some u → w.cell? (M.adr j) = some u) ∧ (0 < ys.length → L.isSome = true) ∧ (ys.length = 0 → L = none) ∧
    ∀ (ρ : Rho) (n : Nat), ρ n = L → RV ρ (T1.slA n ys.length) sl := by
  cases h with
  | nil => exact ⟨[], none, rfl, fun j u h => (by simp at h), fun i e h => (by simp at h), fun M h => (by cases h), fun h => (by simp at h), fun _ => rfl, fun _ _ _ => .nils⟩
  | row h1 h2 h3 =>
    rename_i a ys blk off c
    obtain ⟨vs, k1, k2, k3⟩ := h3.vals
    refine ⟨vs, some ⟨blk, off, c * 7, undef, 0⟩, k1, fun j u hu => (k2 j u hu).2, k3, fun M hM => ?_, fun _ => rfl, fun h => ?_, fun ρ n hn => ?_⟩
    · cases hM
      exact ⟨hT _ h2, fun j u hu => (k2 j u hu).1⟩
    · simp at h
    · exact RV.sle n 0 _ 7 c _ hn (Nat.zero_add _) h1
/-- a call that makes no names -/
theorem con_wrap {P : Program} {ρ0 : Rho} {w0 : World} {f : Nat} {xs : List Value} {c : Nat} {v : AV} {B : Nat} {ρ : Rho} {G : Hp} {w : World} {u0 : Value} (rh : RH B ρ G w) (inv : invC ρ0 w0 B ρ G w) (hB : B ≤ w.heap.size) (hv : RV ρ v u0)
    (h : Calls P f xs.toArray w fun e w' => e = .returned u0 ∧ Below w.heap.size w w') :
    Calls P f xs.toArray w fun e w' => ∃ u ρ', e = .returned u ∧ ρ.le ρ' ∧ (∀ n, (n < c ∨ c + 0 ≤ n) → ρ' n = ρ n) ∧ RV ρ' v u ∧ RH B ρ' G w' ∧ Below B w w' ∧ invC ρ0 w0 B ρ' G w' :=
  h.mono fun _ _ ⟨he, hw⟩ => ⟨u0, ρ, he, Rho.le_refl _, fun _ _ => rfl, hv, rh.grow hw, hw.mono hB, invC_grow inv hw⟩
def tabV (x y vx vy : List Value) (n : Nat) : Option Value := if n < 6 then x[n]? else if 8 ≤ n ∧ n < 12 then y[n - 6]? else if 20 ≤ n ∧ n < 41 then vx[n - 20]? else if 41 ≤ n ∧ n < 62 then vy[n - 41]? else none
def rhoC (x y vx vy : List Value) (Lx Ly : Option Loc) : Rho := fun n => if n = 12 then Lx else if n = 13 then Ly else (tabV x y vx vy n).map vloc
section
variable {x y vx vy : List Value} {Lx Ly : Option Loc}
theorem rhoC_x {n : Nat} (h : n < 6) : rhoC x y vx vy Lx Ly n = (x[n]?).map vloc := by
  unfold rhoC tabV; rw [if_neg (by omega), if_neg (by omega), if_pos h]
theorem rhoC_y {n : Nat} (h : 8 ≤ n ∧ n < 12) : rhoC x y vx vy Lx Ly n = (y[n - 6]?).map vloc := by
  unfold rhoC tabV; rw [if_neg (by omega), if_neg (by omega), if_neg (by omega), if_pos h]
theorem rhoC_vx {n : Nat} (h : 20 ≤ n ∧ n < 41) : rhoC x y vx vy Lx Ly n = (vx[n - 20]?).map vloc := by
  unfold rhoC tabV; rw [if_neg (by omega), if_neg (by omega), if_neg (by omega), if_neg (by omega), if_pos h]
theorem rhoC_vy {n : Nat} (h : 41 ≤ n ∧ n < 62) : rhoC x y vx vy Lx Ly n = (vy[n - 41]?).map vloc := by
  unfold rhoC tabV; rw [if_neg (by omega), if_neg (by omega), if_neg (by omega), if_neg (by omega), if_neg (by omega), if_pos h]
theorem rhoC_12 : rhoC x y vx vy Lx Ly 12 = Lx := rfl
theorem rhoC_13 : rhoC x y vx vy Lx Ly 13 = Ly := rfl
theorem rhoC_big {n : Nat} (h : 62 ≤ n) : rhoC x y vx vy Lx Ly n = none := by
  unfold rhoC tabV; rw [if_neg (by omega), if_neg (by omega), if_neg (by omega), if_neg (by omega), if_neg (by omega), if_neg (by omega)]; rfl
theorem rhoC_loc {n : Nat} {L : Loc} (h : rhoC x y vx vy Lx Ly n = some L) : L.blk = 0 ∨ Lx = some L ∨ Ly = some L := by
  unfold rhoC at h
  split at h
  · exact .inr (.inl h)
  · split at h
    · exact .inr (.inr h)
    · rw [Option.map_eq_some_iff] at h
      obtain ⟨v, _, rfl⟩ := h
      exact .inl rfl
end
theorem hA_get {l1 l2 n : Nat} {o : AB} (h : (T1.hA l1 l2).get n = some o) : (n = 12 ∧ 0 < l1 ∧ o = .cells .ro (T1.opsL 20 (7 * l1))) ∨ (n = 13 ∧ 0 < l2 ∧ o = .cells .ro (T1.opsL 41 (7 * l2))) := by
  have one : ∀ l1, (nE l1 (Tr.lf : Tr AB) (fun _ => Tr.lf.set 12 (.cells .ro (T1.opsL 20 (7 * l1))))).get n = some o → n = 12 ∧ 0 < l1 ∧ o = .cells .ro (T1.opsL 20 (7 * l1)) := by
    intro l1 h
    cases l1 with
    | zero => exact absurd (show (Tr.lf : Tr AB).get n = some o from h) (by simp)
    | succ l1 =>
      have h' : ((Tr.lf : Tr AB).set 12 (.cells .ro (T1.opsL 20 (7 * (l1 + 1))))).get n = some o := h
      rw [Tr.get_set] at h'
      by_cases hn : n = 12
      · rw [if_pos hn] at h'; cases h'; exact ⟨hn, by omega, rfl⟩
      · rw [if_neg hn] at h'; simp at h'
  cases l2 with
  | zero => exact .inl (one l1 h)
  | succ l2 =>
    have h' : ((nE l1 (Tr.lf : Tr AB) (fun _ => Tr.lf.set 12 (.cells .ro (T1.opsL 20 (7 * l1))))).set 13 (.cells .ro (T1.opsL 41 (7 * (l2 + 1))))).get n = some o := h
    rw [Tr.get_set] at h'
    by_cases hn : n = 13
    · rw [if_pos hn] at h'; cases h'; exact .inr ⟨hn, by omega, rfl⟩
    · rw [if_neg hn] at h'; exact .inl (one l1 h')
end Go.Ab
namespace T1
open Go Go.Ab Go.Proofs
open Go.RowKit (Below)
theorem allB_ok {α : Type} {f : α → Bool} : ∀ {l : List α}, allB f l = true → ∀ x ∈ l, f x = true
  | [], _, x, hx => by simp at hx
  | y :: l, h, x, hx => by
    have h' : bE (f y) (allB f l) false = true := h
    cases hy : f y with
    | false => rw [hy] at h'; cases h'
    | true =>
      rw [hy, bE_true] at h'
      rcases List.mem_cons.1 hx with rfl | hx
      · exact hy
      · exact allB_ok h' x hx
theorem sgn_mem {r : Int} (h : Sg r) : r ∈ sgn := by
  rcases h with rfl | rfl | rfl
  · exact List.mem_cons_self
  · exact List.mem_cons_of_mem _ List.mem_cons_self
  · exact List.mem_cons_of_mem _ (List.mem_cons_of_mem _ List.mem_cons_self)
theorem ars_mem {l : Nat} (h : l ≤ 3) : l ∈ ars := by
  have : l = 0 ∨ l = 1 ∨ l = 2 ∨ l = 3 := by omega
  rcases this with rfl | rfl | rfl | rfl <;> simp [ars]
theorem isInt_eq {n : Int} {r : Out} (h : isInt n r = true) : ∃ h' c tl, r = .ok (.int .i64 n) h' c tl := by
  cases r with
  | no => cases h
  | ok v h' c tl =>
    have h1 : oE (asInt v) false (fun p => pE p (fun k m => keq k .i64 && ieq m n)) = true := h
    cases hv : asInt v with
    | none => rw [hv] at h1; cases h1
    | some p =>
      obtain ⟨k, m⟩ := p
      rw [hv, oE_some, pE_mk, Bool.and_eq_true] at h1
      obtain rfl := asInt_eq hv
      obtain rfl := keq_eq h1.1
      rw [ieq_eq] at h1
      obtain rfl : m = n := by simpa using h1.2
      exact ⟨h', c, tl, rfl⟩
/-- the run that answers for a pair of expressions -/
theorem run_of {g : Nat} {fn : Func} (ha : chkH g fn (.negSucc 0) = true) (hb : chkH g fn (.ofNat 0) = true) (hc : chkH g fn (.ofNat 1) = true) (ht : chkT g fn = true) {ro rn rq : Int} {rl : List Int} {l1 l2 : Nat}
    (h1 : Sg ro) (h2 : Sg rn) (h3 : Sg rq) (hl1 : l1 ≤ 3) (hl2 : l2 ≤ 3) (hrl : ∀ x ∈ rl, Sg x) (hlen : l1 = l2 → rl.length = l1) :
    ∃ rs, (∀ (i : Nat) (r : Int), rs[i]? = some r → rl[i]? = some r) ∧ isInt (fst0 (ro :: rn :: rq :: cmpI l1 l2 :: rl)) (runC g fn ro rn rq l1 l2 rs) = true := by
  have hsplit : fst0 (ro :: rn :: rq :: cmpI l1 l2 :: rl) = if head4 ro rn rq l1 l2 = 0 then fst0 rl else head4 ro rn rq l1 l2 := fst0_append [ro, rn, rq, cmpI l1 l2] rl
  by_cases h0 : head4 ro rn rq l1 l2 = 0
  · rw [hsplit, if_pos h0]
    have hz : ro = 0 ∧ rn = 0 ∧ rq = 0 ∧ l1 = l2 := by
      unfold head4 lenC at h0
      rw [fst0_cons] at h0
      split at h0
      · next e1 =>
        rw [fst0_cons] at h0
        split at h0
        · next e2 =>
          rw [fst0_cons] at h0
          split at h0
          · next e3 =>
            rw [fst0_cons] at h0
            split at h0
            · next e4 =>
              rw [cmpI_eq] at e4
              refine ⟨e1, e2, e3, ?_⟩
              split at e4
              · cases e4
              · split at e4
                · next h => exact Int.ofNat.inj h
                · cases e4
            · next e4 => exact absurd h0 e4
          · next e3 => exact absurd h0 e3
        · next e2 => exact absurd h0 e2
      · next e1 => exact absurd h0 e1
    obtain ⟨rfl, rfl, rfl, rfl⟩ := hz
    refine ⟨trunc rl, fun i r h => trunc_get rl i r h, ?_⟩
    have := allB_ok (allB_ok ht l1 (ars_mem hl1)) (trunc rl) (by have := trunc_rows rl hrl; rwa [hlen rfl] at this)
    rw [trunc_fst] at this
    exact this
  · rw [hsplit, if_neg h0]
    refine ⟨[], fun i r h => by simp at h, ?_⟩
    have hH : chkH g fn ro = true := by rcases h1 with rfl | rfl | rfl <;> assumption
    have := allB_ok (allB_ok (allB_ok (allB_ok hH rn (sgn_mem h2)) rq (sgn_mem h3)) l1 (ars_mem hl1)) l2 (ars_mem hl2)
    have h5 : bE (ieq (head4 ro rn rq l1 l2) (.ofNat .zero)) true (isInt (head4 ro rn rq l1 l2) (runC g fn ro rn rq l1 l2 [])) = true := this
    rw [ieq_eq] at h5
    have h6 : (head4 ro rn rq l1 l2 == Int.ofNat Nat.zero) = false := by simpa using h0
    rw [h6, bE_false] at h5
    exact h5
end T1
