/- A part of an evaluator of the program's operations over values that are known whole or in part, and of the proof that what it answers holds of the program's run. No condition. -/
import Derived.Test.YtofkgopegmoidaaGreatDoorWU6
import Derived.Test.YtofkgopegmoidaaGreatDoorWU3a
import Derived.Test.YtofkgopegmoidaaGreatDoorWU3b
import Derived.Test.YtofkgopegmoidaaGreatDoorWU3c
import Derived.Test.YtofkgopegmoidaaGreatDoorWU3d
import Derived.Test.YtofkgopegmoidaaGreatDoorWS59
import Derived.WalkSpells
namespace T1
open Go Go.Ab Go.Proofs
open Go.RowKit (Below)
theorem cs_le {wb w : World} {gb : Nat} {y : Value} {ns : List Nat} (h : CS wb gb y ns w) : ns.headD 0 ≤ 255 := by
  obtain ⟨sl, _, _, _, h⟩ := h
  rcases h with ⟨_, rfl⟩ | ⟨b, off, c, _, _, _, _, h5⟩
  · simp
  · cases ns with
    | nil => simp
    | cons x ns => exact (h5 0 x rfl).1
theorem leaf_up {vs : Nat} : ∀ op nm b1 m1 b2 m2 t, isLeaf 0 op nm b1 m1 b2 m2 t = true → isLeaf vs op nm b1 m1 b2 m2 t = true := by
  intro op nm b1 m1 b2 m2 t h
  unfold isLeaf at h ⊢
  split at h
  · exact h
  · exact h
  · rw [Bool.and_eq_true] at h
    exact absurd h.1 (by simp [varN, memS])
  · exact h
  · cases h
theorem ptrs (gb : Nat) (sl : Value) : RV (rhoY gb sl) p0 (.pointer (some ⟨gb, 0, none⟩)) := .ptr 0 0 (bLoc gb) rfl
theorem num_has {x : Nat} (h : x ≤ 255) : closeT 0 2 0 (runY0 Tryz.f119 [p0] .any 256 x) = true := by
  have key : ∀ a, numChk (from' a 64) = true → a ≤ x → x < a + 64 → closeT 0 2 0 (runY0 Tryz.f119 [p0] .any 256 x) = true := fun a ha h1 h2 => by
    refine allB'_ok ha x ?_
    unfold from'
    exact List.mem_map.2 ⟨x - a, List.mem_range.2 (by omega), by omega⟩
  by_cases h1 : x < 64
  · exact key 0 numa (by omega) (by omega)
  by_cases h2 : x < 128
  · exact key 64 numb (by omega) (by omega)
  by_cases h3 : x < 192
  · exact key 128 numc (by omega) (by omega)
  · exact key 192 numd (by omega) (by omega)
theorem numS (vs : Nat) : NumS vs := by
  intro wb w gb ns hb hcs
  have h255 := cs_le hcs
  exact runY_gen (m1 := 256) (r1 := ns.headD 0) (m2 := 1) (r2 := 0) leaf_up fn119 body119 hb hcs (conY0_ok hb) (fun ρ => .any _) (Nat.mod_eq_of_lt (by omega)) (Nat.mod_one _) (fun sl => .cons (ptrs gb sl) .nil) (num_has h255)
theorem ptS {vs : Nat} (h : vs ≤ 2) : PtS vs := by
  intro wb w gb ns hb hcs
  have hlt := Nat.mod_lt (ns.headD 0) (show 0 < 8 by omega)
  have key : pointChk vs = true → Calls Tryz.prog 120 #[Value.pointer (some ⟨gb, 0, none⟩)] w (YRes (TEP vs 7 0) wb gb (yV vs) w) := fun hc =>
    runY_gen (m1 := 8) (r1 := ns.headD 0 % 8) (m2 := 1) (r2 := 0) (fun _ _ _ _ _ _ _ h => h) fn120 body120 hb hcs (conY0_ok hb) (fun ρ => .int _ _) rfl (Nat.mod_one _) (fun sl => .cons (ptrs gb sl) .nil) (allB'_ok hc _ (List.mem_range.2 hlt))
  have : vs = 0 ∨ vs = 1 ∨ vs = 2 := by omega
  rcases this with rfl | rfl | rfl
  · exact key pt0
  · exact key pt1
  · exact key pt2
theorem lvl_rv {ρ : Rho} (l : Nat) : RV ρ (lvl l) (.int .i64 (lvI l)) := by
  cases l with
  | zero => exact .int _ _
  | succ l =>
    have : lvI (l + 1) = (l : Int) := by unfold lvI; omega
    rw [this]
    exact .int .i64 (Int.ofNat l)
theorem okTL_ge {t l : Nat} (h2 : 2 ≤ l) (h : okTL t l = true) : 1 ≤ t ∧ t ≤ 8 := by
  unfold okTL at h
  rw [Nat.ble_eq_true_of_le h2, bE_true, Bool.and_eq_true, Bool.and_eq_true] at h
  exact ⟨ble_true h.1, ble_true h.2.1⟩
section
variable {vs : Nat} (hv : vs ≤ 2)
include hv
theorem tyS_of {l t m1 m2 : Nat} (h1 : 0 < m1) (h2 : 0 < m2) (hc : typChk l t m1 m2 = true) (ty : ∀ k, k < l → TyS vs k) (pl : ∀ k, k < l → PlS vs k) (am : ∀ k, k < l → AmS vs k) : YS vs 56 [.int .i64 (t : Int), .int .i64 (lvI l)] (TEP vs t (l + 1)) := by
  intro wb w gb ns hb hcs
  exact runY_gen (m1 := m1) (r1 := ns.headD 0 % m1) (m2 := m2) (r2 := ns.tail.headD 0 % m2) leaf_up fn56 body56 hb hcs (conY_ok (numS vs) (ptS hv) ty pl am hb) (fun ρ => .any _) rfl rfl (fun sl => .cons (ptrs gb sl) (.cons (.int .i64 (Int.ofNat t)) (.cons (lvl_rv l) .nil)))
    (allB'_ok (allB'_ok hc _ (List.mem_range.2 (Nat.mod_lt _ h1))) _ (List.mem_range.2 (Nat.mod_lt _ h2)))
theorem plS_of {l : Nat} (hc : placeChk l = true) (ty : ∀ k, k < l + 1 → TyS vs k) : PlS vs l := by
  intro wb w gb ns hb hcs
  exact runY_gen (m1 := 2) (r1 := ns.headD 0 % 2) (m2 := 1) (r2 := 0) leaf_up fn121 body121 hb hcs (conY_ok (lp := 0) (numS vs) (ptS hv) ty (fun _ h => absurd h (by omega)) (fun _ h => absurd h (by omega)) hb) (fun ρ => .any _) rfl (Nat.mod_one _) (fun sl => .cons (ptrs gb sl) (.cons (lvl_rv l) .nil))
    (allB'_ok hc _ (List.mem_range.2 (Nat.mod_lt _ (by omega))))
theorem amS_of {l : Nat} (hc : amountChk l = true) (ty : ∀ k, k < l + 1 → TyS vs k) : AmS vs l := by
  intro _ wb w gb ns hb hcs
  exact runY_gen (m1 := 2) (r1 := ns.headD 0 % 2) (m2 := 1) (r2 := 0) leaf_up fn122 body122 hb hcs (conY_ok (lp := 0) (numS vs) (ptS hv) ty (fun _ h => absurd h (by omega)) (fun _ h => absurd h (by omega)) hb) (fun ρ => .any _) rfl (Nat.mod_one _) (fun sl => .cons (ptrs gb sl) (.cons (lvl_rv l) .nil))
    (allB'_ok hc _ (List.mem_range.2 (Nat.mod_lt _ (by omega))))
/-- one level more -/
theorem step_of {l : Nat} (ty : (∀ k, k < l → TyS vs k) → (∀ k, k < l → PlS vs k) → (∀ k, k < l → AmS vs k) → TyS vs l) (pl : l ≤ 4 → placeChk l = true) (am : 2 ≤ l → l ≤ 4 → amountChk l = true) (h : (∀ k, k < l → TyS vs k) ∧ (∀ k, k < l → k ≤ 4 → PlS vs k) ∧ (∀ k, k < l → k ≤ 4 → AmS vs k)) (hl : l ≤ 5) :
    (∀ k, k < l + 1 → TyS vs k) ∧ (∀ k, k < l + 1 → k ≤ 4 → PlS vs k) ∧ (∀ k, k < l + 1 → k ≤ 4 → AmS vs k) := by
  have hty : TyS vs l := ty h.1 (fun k hk => h.2.1 k hk (by omega)) (fun k hk => h.2.2 k hk (by omega))
  have hall : ∀ k, k < l + 1 → TyS vs k := fun k hk => by
    by_cases hkl : k = l
    · subst hkl; exact hty
    · exact h.1 k (by omega)
  refine ⟨hall, fun k hk h4 => ?_, fun k hk h4 => ?_⟩
  · by_cases hkl : k = l
    · subst hkl; exact plS_of hv (pl h4) hall
    · exact h.2.1 k (by omega) h4
  · by_cases hkl : k = l
    · subst hkl
      intro h2
      exact amS_of hv (am h2 h4) hall h2
    · exact h.2.2 k (by omega) h4
theorem tyS0 : TyS vs 0 := by
  intro t ht
  have ht' : (Nat.beq t 7 || Nat.beq t 3) = true := ht
  rw [Bool.or_eq_true] at ht'
  rcases ht' with h | h <;> obtain rfl := beq_true h
  · exact tyS_of hv (by omega) (by omega) ty0_7 (fun _ h => absurd h (by omega)) (fun _ h => absurd h (by omega)) (fun _ h => absurd h (by omega))
  · exact tyS_of hv (by omega) (by omega) ty0_3 (fun _ h => absurd h (by omega)) (fun _ h => absurd h (by omega)) (fun _ h => absurd h (by omega))
theorem tyS1 (ty : ∀ k, k < 1 → TyS vs k) (pl : ∀ k, k < 1 → PlS vs k) (am : ∀ k, k < 1 → AmS vs k) : TyS vs 1 := by
  intro t ht
  have ht' : (Nat.beq t 5 || (Nat.beq t 7 || Nat.beq t 3)) = true := ht
  rw [Bool.or_eq_true, Bool.or_eq_true] at ht'
  rcases ht' with h | h | h <;> obtain rfl := beq_true h
  · exact tyS_of hv (by omega) (by omega) ty1_5 ty pl am
  · exact tyS_of hv (by omega) (by omega) ty1_7 ty pl am
  · exact tyS_of hv (by omega) (by omega) ty1_3 ty pl am
theorem tyS2 (ty : ∀ k, k < 2 → TyS vs k) (pl : ∀ k, k < 2 → PlS vs k) (am : ∀ k, k < 2 → AmS vs k) : TyS vs 2 := by
  intro t ht
  have := okTL_ge (by omega) ht
  have : t = 1 ∨ t = 2 ∨ t = 3 ∨ t = 4 ∨ t = 5 ∨ t = 6 ∨ t = 7 ∨ t = 8 := by omega
  rcases this with rfl | rfl | rfl | rfl | rfl | rfl | rfl | rfl
  · exact tyS_of hv (by omega) (by omega) ty2_1 ty pl am
  · exact tyS_of hv (by omega) (by omega) ty2_2 ty pl am
  · exact tyS_of hv (by omega) (by omega) ty2_3 ty pl am
  · exact tyS_of hv (by omega) (by omega) ty2_4 ty pl am
  · exact tyS_of hv (by omega) (by omega) ty2_5 ty pl am
  · exact tyS_of hv (by omega) (by omega) ty2_6 ty pl am
  · exact tyS_of hv (by omega) (by omega) ty2_7 ty pl am
  · exact tyS_of hv (by omega) (by omega) ty2_8 ty pl am
theorem tyS3 (ty : ∀ k, k < 3 → TyS vs k) (pl : ∀ k, k < 3 → PlS vs k) (am : ∀ k, k < 3 → AmS vs k) : TyS vs 3 := by
  intro t ht
  have := okTL_ge (by omega) ht
  have : t = 1 ∨ t = 2 ∨ t = 3 ∨ t = 4 ∨ t = 5 ∨ t = 6 ∨ t = 7 ∨ t = 8 := by omega
  rcases this with rfl | rfl | rfl | rfl | rfl | rfl | rfl | rfl
  · exact tyS_of hv (by omega) (by omega) ty3_1 ty pl am
  · exact tyS_of hv (by omega) (by omega) ty3_2 ty pl am
  · exact tyS_of hv (by omega) (by omega) ty3_3 ty pl am
  · exact tyS_of hv (by omega) (by omega) ty3_4 ty pl am
  · exact tyS_of hv (by omega) (by omega) ty3_5 ty pl am
  · exact tyS_of hv (by omega) (by omega) ty3_6 ty pl am
  · exact tyS_of hv (by omega) (by omega) ty3_7 ty pl am
  · exact tyS_of hv (by omega) (by omega) ty3_8 ty pl am
theorem tyS4 (ty : ∀ k, k < 4 → TyS vs k) (pl : ∀ k, k < 4 → PlS vs k) (am : ∀ k, k < 4 → AmS vs k) : TyS vs 4 := by
  intro t ht
  have := okTL_ge (by omega) ht
  have : t = 1 ∨ t = 2 ∨ t = 3 ∨ t = 4 ∨ t = 5 ∨ t = 6 ∨ t = 7 ∨ t = 8 := by omega
  rcases this with rfl | rfl | rfl | rfl | rfl | rfl | rfl | rfl
  · exact tyS_of hv (by omega) (by omega) ty4_1 ty pl am
  · exact tyS_of hv (by omega) (by omega) ty4_2 ty pl am
  · exact tyS_of hv (by omega) (by omega) ty4_3 ty pl am
  · exact tyS_of hv (by omega) (by omega) ty4_4 ty pl am
  · exact tyS_of hv (by omega) (by omega) ty4_5 ty pl am
  · exact tyS_of hv (by omega) (by omega) ty4_6 ty pl am
  · exact tyS_of hv (by omega) (by omega) ty4_7 ty pl am
  · exact tyS_of hv (by omega) (by omega) ty4_8 ty pl am
theorem tyS5 (ty : ∀ k, k < 5 → TyS vs k) (pl : ∀ k, k < 5 → PlS vs k) (am : ∀ k, k < 5 → AmS vs k) : TyS vs 5 := by
  intro t ht
  have := okTL_ge (by omega) ht
  have : t = 1 ∨ t = 2 ∨ t = 3 ∨ t = 4 ∨ t = 5 ∨ t = 6 ∨ t = 7 ∨ t = 8 := by omega
  rcases this with rfl | rfl | rfl | rfl | rfl | rfl | rfl | rfl
  · exact tyS_of hv (by omega) (by omega) ty5_1 ty pl am
  · exact tyS_of hv (by omega) (by omega) ty5_2 ty pl am
  · exact tyS_of hv (by omega) (by omega) ty5_3 ty pl am
  · exact tyS_of hv (by omega) (by omega) ty5_4 ty pl am
  · exact tyS_of hv (by omega) (by omega) ty5_5 ty pl am
  · exact tyS_of hv (by omega) (by omega) ty5_6 ty pl am
  · exact tyS_of hv (by omega) (by omega) ty5_7 ty pl am
  · exact tyS_of hv (by omega) (by omega) ty5_8 ty pl am
theorem typed56 {t : Nat} (h1 : 1 ≤ t) (h8 : t ≤ 8) : YS vs 56 [.int .i64 (t : Int), .int .i64 4] (TEP vs t 6) := by
  have s0 := step_of hv (l := 0) (fun _ _ _ => tyS0 hv) (fun _ => pl0) (fun h => absurd h (by omega)) ⟨fun _ h => absurd h (by omega), fun _ h => absurd h (by omega), fun _ h => absurd h (by omega)⟩ (by omega)
  have s1 := step_of hv (l := 1) (tyS1 hv) (fun _ => pl1) (fun h => absurd h (by omega)) s0 (by omega)
  have s2 := step_of hv (l := 2) (tyS2 hv) (fun _ => pl2) (fun _ _ => am2) s1 (by omega)
  have s3 := step_of hv (l := 3) (tyS3 hv) (fun _ => pl3) (fun _ _ => am3) s2 (by omega)
  have s4 := step_of hv (l := 4) (tyS4 hv) (fun _ => pl4) (fun _ _ => am4) s3 (by omega)
  have s5 := step_of hv (l := 5) (tyS5 hv) (fun h => absurd h (by omega)) (fun _ h => absurd h (by omega)) s4 (by omega)
  refine s5.1 5 (by omega) t ?_
  unfold okTL
  rw [show Nat.ble 2 5 = true from rfl, bE_true, Nat.ble_eq_true_of_le h1, Nat.ble_eq_true_of_le h8]; rfl
end
end T1
namespace T1
open Go Go.Ab Go.Proofs
open Go.RowKit (Below)
/-- a slice of small numbers, read -/
theorem u8r_ul {w w2 : World} {sl : Value} {gb : Nat} (h : U8r w sl) (hb : Below w.heap.size w w2) (hg : w.heap.size ≤ gb) : ∃ ns, UL w2 gb sl ns := by
  rcases h with h | ⟨b, off, l, c, rfl, h2, h3, h4⟩
  · exact ⟨[], .inl ⟨h, rfl⟩⟩
  · have : ∃ ns : List Nat, ns.length = l ∧ ∀ (i x : Nat), ns[i]? = some x → x ≤ 255 ∧ w2.cell? ⟨b, off + i, none⟩ = some (.int .u8 (x : Int)) := by
      clear h2
      induction l with
      | zero => exact ⟨[], rfl, fun i x h => by simp at h⟩
      | succ l ih =>
        obtain ⟨ns, n1, n2⟩ := ih (fun i hi => h4 i (by omega))
        obtain ⟨x, x1, x2⟩ := h4 l (by omega)
        refine ⟨ns ++ [x], by simp [n1], fun i z hz => ?_⟩
        by_cases hi : i < ns.length
        · rw [List.getElem?_append_left hi] at hz
          exact n2 i z hz
        · rw [List.getElem?_append_right (by omega)] at hz
          have : i - ns.length = 0 := by
            cases hh : i - ns.length with
            | zero => rfl
            | succ k => rw [hh] at hz; simp at hz
          rw [this] at hz
          simp at hz
          subst hz
          obtain rfl : i = l := by omega
          exact ⟨x1, by rw [World.cell?_of_block (w := w) (hb.block b h3)]; exact x2⟩
    obtain ⟨ns, n1, n2⟩ := this
    exact ⟨ns, .inr ⟨b, off, c, by rw [n1], by omega, Nat.lt_of_lt_of_le h3 hb.size, by omega, n2⟩⟩
/-- the first ones of a slice of small numbers -/
theorem u8r_cut {w : World} {a : Option Addr} {l l' c : Nat} (h : U8r w (.slice a l c)) (hl : l' ≤ l) : U8r w (.slice a l' c) := by
  rcases h with ⟨a', c', h⟩ | ⟨b, off, k, c', h1, h2, h3, h4⟩
  · cases h
    obtain rfl : l' = 0 := by omega
    exact .inl ⟨_, _, rfl⟩
  · cases h1
    exact .inr ⟨b, off, l', c, rfl, by omega, h3, fun i hi => h4 i (by omega)⟩
def TypedRes (vs t : Nat) (w : World) (e : Ending) (w' : World) : Prop := ∃ (cs : List Value) (ex : Ex), e = .returned (.agg cs.toArray) ∧ TE vs t 6 ex ∧ IsEx w' (fun k => w.heap.size ≤ k ∧ k < w'.heap.size) ex cs ∧ Below w.heap.size w w'
theorem typed_end {w w' : World} {t : Nat} {op : Int} {nm : ByteArray} {b1 : Bool} {m1 : ByteArray} {b2 : Bool} {m2 : ByteArray} {ys : List Ex} {sl : Value} {a : Act} {W : World} (hW : W = w'.setCells w.heap.size 0 [.int .i64 op, .string nm, .bool b1, .string m1, .bool b2, .string m2, sl]) (hd : a.defers = []) (hp : a.tmps.getD 6 undef = .pointer (some ⟨w.heap.size, 0, none⟩))
    (hb3 : Below w.heap.size w w') (_hlt : w.heap.size < w'.heap.size) (hg : TE 2 t 6 (.mk op nm b1 m1 b2 m2 ys)) (hx : IsSl w' (fun k => w.heap.size + 2 ≤ k ∧ k < w'.heap.size) ys sl) (e1 : ∀ j, j < 7 → (w'.cell? ⟨w.heap.size, 0 + j, none⟩).isSome = true) :
    bodyPost Tryz.prog Tryz.f22 (TypedRes 2 t w) .ret a W := by
  subst hW
  refine bodyPost_ret (v := .agg [.int .i64 op, .string nm, .bool b1, .string m1, .bool b2, .string m2, sl].toArray) (results_cell (by kernel_rfl) hp (load30 rfl fun j u hj => ?_)) hd ?_
  · have hj7 : j < 7 := (List.getElem?_eq_some_iff.1 hj).1
    have := World.cell?_setCells_in w.heap.size [.int .i64 op, .string nm, .bool b1, .string m1, .bool b2, .string m2, sl] 0 w' e1 j hj7
    rw [Nat.zero_add] at this
    rw [this, ← hj, List.getElem?_eq_getElem hj7]
  · refine ⟨_, .mk op nm b1 m1 b2 m2 ys, rfl, hg, .mk (hx.mono (fun k hk => ?_) (fun k hk => ?_)), ?_⟩
    · exact ⟨by have := hk.1; omega, by rw [setCells_size]; exact hk.2⟩
    · exact setCells_other _ _ _ _ _ (by have := hk.1; omega)
    · exact hb3.trans (setCells_below _ (Nat.le_refl _) _ _ _)
/-- what typed comes to behind Typed's two blocks -/
theorem typed_call {w : World} (o1 : Obj) {a : Option Addr} {l c t : Nat} (hsl : U8r w (.slice a l c)) (h1 : 1 ≤ t) (h8 : t ≤ 8) :
    Calls Tryz.prog 56 #[.pointer (some ⟨w.heap.size + 1, 0, none⟩), .int .i64 (t : Int), .int .i64 4] ((w.alloc o1).alloc (.cells #[.slice a l c, .int .i64 2] 110)) fun e w' =>
      ∃ (cs : List Value) (ex : Ex), e = .returned (.agg cs.toArray) ∧ TE 2 t 6 ex ∧ IsEx w' (fun k => w.heap.size + 2 ≤ k ∧ k < w'.heap.size) ex cs ∧ Below w.heap.size w w' ∧ w.heap.size < w'.heap.size ∧ w'.heap[w.heap.size]? = some o1 := by
  have hs1 : (w.alloc o1).heap.size = w.heap.size + 1 := by simp
  have hs2 : ∀ o2, ((w.alloc o1).alloc o2).heap.size = w.heap.size + 2 := fun o2 => by simp
  have hb2 : ∀ o2, Below w.heap.size w ((w.alloc o1).alloc o2) := fun o2 => ((Below.refl _ w).alloc (Nat.le_refl _) o1).alloc (by simp) o2
  obtain ⟨ns, hns⟩ := u8r_ul (gb := w.heap.size + 1) hsl (hb2 (.cells #[.slice a l c, .int .i64 2] 110)) (by omega)
  have hcs : CS ((w.alloc o1).alloc (.cells #[.slice a l c, .int .i64 2] 110)) (w.heap.size + 1) (yV 2) ns ((w.alloc o1).alloc (.cells #[.slice a l c, .int .i64 2] 110)) := by
    refine ⟨.slice a l c, ?_, ?_, ?_, hns⟩
    · rw [← hs1]; exact World.cell?_alloc_new _ _ _ _
    · rw [← hs1]; exact World.cell?_alloc_new _ _ _ _
    · rw [← hs1]; exact World.frozen?_alloc_new _ _ _ _
  have := typed56 (vs := 2) (by omega) h1 h8 _ _ (w.heap.size + 1) ns ⟨by rw [hs2]; omega, Nat.le_refl _, fun _ _ _ => rfl⟩ hcs
  refine this.mono fun e w' ⟨cs, ex, he, hq, hex, hbel, hsz, hold, _⟩ => ?_
  rw [hs2] at hex hsz hold
  obtain ⟨t', ht', hte⟩ := hq
  have : t' = t := by
    unfold exT' at ht'
    rw [if_neg (by omega), if_neg (by omega)] at ht'
    simpa using ht'
  subst this
  refine ⟨cs, ex, he, hte, hex, (hb2 _).trans (hbel.mono (by omega)), by omega, ?_⟩
  rw [hold w.heap.size (by omega) (by omega), Below.heap_alloc _ _ _ (by simp), alloc_new]
set_option maxHeartbeats 8000000 in
theorem typed22 (a : Option Addr) (l c : Nat) (w : World) (hsl : U8r w (.slice a l c)) (hlc : l ≤ c) (k : Nat) (h1 : 1 ≤ k) (h8 : k ≤ 8) :
    Calls Tryz.prog 22 #[.slice a l c, .int .i64 (k : Int), .int .i64 2] w (TypedRes 2 k w) := by
  have hk : k = 1 ∨ k = 2 ∨ k = 3 ∨ k = 4 ∨ k = 5 ∨ k = 6 ∨ k = 7 ∨ k = 8 := by omega
  rcases hk with rfl | rfl | rfl | rfl | rfl | rfl | rfl | rfl
  all_goals
    go_enter Tryz.func22, Tryz.ntmps22
    go_wp2_with fail
    all_goals
      first
      | exact absurd hlc (by omega)
      | (refine (typed_call _ (u8r_cut hsl (by omega)) (by omega) (by omega)).mono ?_
         rintro e w' ⟨cs, ex, rfl, hg, hex, hb3, hlt, hblk⟩
         cases hex with
         | mk hsl' =>
           rename_i op nm b1 m1 b2 m2 ys sl
           obtain ⟨s0, s1, s2, rfl⟩ : ∃ a l c, sl = .slice a l c := by cases hsl' <;> exact ⟨_, _, _, rfl⟩
           have e1 : ∀ j, w'.cell? ⟨w.heap.size, j, none⟩ = (#[Value.int IntKind.i64 0, Value.string { data := #[] }, Value.bool false, Value.string { data := #[] }, Value.bool false, Value.string { data := #[] }, Value.slice none 0 0] : Array Value)[j]? := fun j => by
             simp [World.cell?, hblk]
           have e2 : ∀ j, w'.frozen? ⟨w.heap.size, j, none⟩ = false := fun j => by
             simp [World.frozen?, hblk]
           have e10 := e1 0
           have e11 := e1 1
           have e12 := e1 2
           have e13 := e1 3
           have e14 := e1 4
           have e15 := e1 5
           have e16 := e1 6
           simp at e10 e11 e12 e13 e14 e15 e16
           have e1' : ∀ j, j < 7 → (w'.cell? ⟨w.heap.size, 0 + j, none⟩).isSome = true := fun j hj => by
             rw [Nat.zero_add, e1 j, Array.getElem?_eq_getElem (by exact hj)]; rfl
           clear e1 hblk
           go_wp2
           (try simp only [Exit.inBlock, Exit.then])
           exact typed_end rfl rfl rfl hb3 hlt hg hsl' e1')
#print axioms typed22
end T1
