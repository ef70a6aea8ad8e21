/- A part of an evaluator of the program's operations over values that are known whole or in part, and of the proof that what it answers holds of the program's run. No condition. -/
import Derived.Test.YtofkgopegmoidaaGreatDoorWS9
namespace Go.Ab
open Go.RowKit (Below)
section
variable {P : Program} {E : Env} {B : Nat} {ρ : Rho} {G : Hp} {w : World}

/-! Slicing. -/
theorem oN_ok {t : Tr AV} {a : Act} {d n : Nat} {x : Option Operand} (tm : TO ρ t a x.toList) (e : oN t d x = some n) :
    (x = none ∧ n = d) ∨ ∃ o k, x = some o ∧ a.eval o = .int k (.ofNat n) := by
  cases x with
  | none => cases e; exact .inl ⟨rfl, rfl⟩
  | some o =>
    obtain ⟨v, hv, e1⟩ := oE_none_eq (show oE (ev t o) none inN = some n from e)
    obtain ⟨k, rfl⟩ := inN_eq e1
    have := tm o (by simp) _ hv
    cases h : a.eval o <;> rw [h] at this <;> cases this
    exact .inr ⟨o, k, rfl, h⟩
theorem bound_ok {k : IntKind} {n y : Nat} (h : n ≤ y) (code : BoundsCode) : (Instr.sliceBound (.int k (.ofNat n)) y code).run P w = .ok n w := by
  simp only [Instr.sliceBound, asIntOf, Sem.run_bind, Sem.run_pure, Result.andThen_ok]
  rw [if_pos ⟨Int.natCast_nonneg n, by simpa using h⟩]
  rfl
theorem bounds_ok {t : Tr AV} {a : Act} {isS : Bool} {len cap l h m : Nat} {lo hi mx : Option Operand} (tm : TO ρ t a (lo.toList ++ (hi.toList ++ mx.toList))) (hlo : oN t 0 lo = some l) (hhi : oN t len hi = some h) (hmx : oN t cap mx = some m)
    (hok : okMx hi mx = true) (h1 : l ≤ h) (h2 : h ≤ m) (h3 : m ≤ cap) :
    (Instr.sliceBounds isS len cap (lo.map a.eval) (hi.map a.eval) (mx.map a.eval)).run P w = .ok (l, h, m) w := by
  rcases oN_ok (tm.sub fun x hx => by simp [hx]) hlo with ⟨rfl, rfl⟩ | ⟨o1, k1, rfl, e1⟩ <;> rcases oN_ok (tm.sub fun x hx => by simp [hx]) hmx with ⟨rfl, rfl⟩ | ⟨o3, k3, rfl, e3⟩ <;>
    rcases oN_ok (tm.sub fun x hx => by simp [hx]) hhi with ⟨rfl, rfl⟩ | ⟨o2, k2, rfl, e2⟩ <;> first
    | (cases hok; done)
    | (simp only [Instr.sliceBounds, Option.map_none, Option.map_some, Sem.run_bind, Sem.run_pure, Result.andThen_ok, e1, e2, e3, bound_ok h1, bound_ok h2, bound_ok h3]; done)
    | (simp only [Instr.sliceBounds, Option.map_none, Option.map_some, Sem.run_bind, Sem.run_pure, Result.andThen_ok, e1, e2, bound_ok h1, bound_ok h2]; done)
    | (simp only [Instr.sliceBounds, Option.map_none, Option.map_some, Sem.run_bind, Sem.run_pure, Result.andThen_ok, e1, bound_ok h1]; done)
    | (simp only [Instr.sliceBounds, Option.map_none, Option.map_some, Sem.run_bind, Sem.run_pure, Result.andThen_ok, e2, e3, bound_ok h2, bound_ok h3]; done)
    | (simp only [Instr.sliceBounds, Option.map_none, Option.map_some, Sem.run_bind, Sem.run_pure, Result.andThen_ok, e2, bound_ok h2]; done)
    | (simp only [Instr.sliceBounds, Option.map_none, Option.map_some, Sem.run_bind, Sem.run_pure, Result.andThen_ok]; done)

theorem slFix_eq {n o z l h m c : Nat} {v : AV} (e : slFix n o z l h m c = some v) : v = .sl n (if m = l then o else o + l * z) (h - l) (.fix (m - l)) ∧ l ≤ h ∧ h ≤ m ∧ m ≤ c := by
  unfold slFix at e
  rw [fN_eq, fN_eq, fN_eq] at e
  obtain ⟨h1, e1⟩ := bE_none_eq e
  simp only [Bool.and_eq_true] at h1
  obtain ⟨⟨h2, h3⟩, h4⟩ := h1
  cases e1
  refine ⟨?_, ble_true h2, ble_true h3, ble_true h4⟩
  cases hb : Nat.beq m l with
  | true => rw [bE_true, if_pos (beq_true hb)]; rfl
  | false => rw [bE_false, if_neg (beq_false hb)]; rfl
theorem slEl_eq {n o z l h ln : Nat} {cap : Cap} {v : AV} (e : slEl n o z l h ln cap = some v) : v = .sl n (o + l * z) (h - l) cap ∧ l ≤ h ∧ h ≤ ln := by
  unfold slEl at e
  rw [fN_eq, fN_eq] at e
  obtain ⟨h1, e1⟩ := bE_none_eq e
  simp only [Bool.and_eq_true] at h1
  cases e1
  exact ⟨rfl, ble_true h1.1, ble_true h1.2⟩
theorem ite_adr (L : Loc) (m l o k : Nat) : (if m = l then L.adr o else (L.adr o).add k) = L.adr (if m = l then o else o + k) := by
  split
  · rfl
  · exact adr_add _ _ _
theorem slice_ok (hE : EnvOK P E) {tm : Tr AV} {a : Act} {t : Nat} {x v : AV} {X : Value} {lo hi mx : Option Operand} (hT : TO ρ tm a (lo.toList ++ (hi.toList ++ mx.toList))) (hx : RV ρ x X) (e : slice E tm t x lo hi mx = some v) :
    ∃ u, (Instr.sliceAt t X (lo.map a.eval) (hi.map a.eval) (mx.map a.eval)).run P w = .ok u w ∧ RV ρ v u := by
  unfold slice at e
  obtain ⟨hok, e0⟩ := bE_none_eq e
  obtain ⟨l, hlo, e1⟩ := oE_none_eq e0
  obtain ⟨ti, ht, e2⟩ := oE_none_eq e1
  obtain ⟨d, hd1, hd2, _, hd3⟩ := (hE.ty _ _ ht).und
  unfold sliceV at e2
  split at e2
  · -- a string
    next s hd =>
    rw [hd] at hd2
    obtain rfl := DR.str hd2
    cases mx with
    | some m => cases e2
    | none =>
      obtain ⟨h, hhi, e3⟩ := oE_none_eq (show oE (oN tm (len s) hi) none (slStr s l) = some v from e2)
      unfold slStr at e3
      obtain ⟨h1, e4⟩ := bE_none_eq e3
      obtain ⟨h2, e5⟩ := bE_none_eq e4
      obtain ⟨r, hr, e6⟩ := oE_none_eq e5
      cases e6
      cases hx with
      | str S =>
        rw [len_eq, bytesOf_length] at hhi h2
        have h1' := ble_true h1
        have h2' := ble_true h2
        have := bounds_ok (P := P) (w := w) hT (isS := false) (len := S.size) (cap := S.size) hlo hhi (mx := none) rfl hok h1' h2' (Nat.le_refl _)
        refine ⟨.string (S.extract l h), ?_, ?_⟩
        · simp only [Instr.sliceAt, Sem.run_bind, hd3, Result.andThen_ok, Instr.slice, Option.map_none]
          rw [if_neg (by simp)]
          simp only [Option.map_none] at this
          simp only [Sem.run_bind, Sem.run_pure, this, Result.andThen_ok]
        · have h3 := RV.str (ρ := ρ) (S.extract l h)
          have h4 : bytesOf (S.extract l h) = r := by
            obtain ⟨rfl, _⟩ := sub_eq hr
            simp [bytesOf, ByteArray.data_extract, List.map_take, List.map_drop]
          rwa [h4] at h3
  · -- nil
    next ety hd =>
    rw [hd] at hd2
    obtain rfl := DR.sl hd2
    obtain ⟨z0, hz0, e20⟩ := oE_none_eq e2
    obtain ⟨_, _, hs1, hs2⟩ := sizeT_ok hE hz0
    obtain ⟨h, hhi, e3⟩ := oE_none_eq (show oE (oN tm .zero hi) none (fun h => oE (oN tm .zero mx) none (fun m => bE (Nat.beq l .zero && Nat.beq h .zero && Nat.beq m .zero) (some .nils) none)) = some v from e20)
    obtain ⟨m, hmx, e4⟩ := oE_none_eq e3
    obtain ⟨h1, e5⟩ := bE_none_eq e4
    cases e5
    simp only [Bool.and_eq_true] at h1
    obtain rfl := beq_true h1.1.1
    obtain rfl := beq_true h1.1.2
    obtain rfl := beq_true h1.2
    cases hx
    have := bounds_ok (P := P) (w := w) hT (isS := true) (len := 0) (cap := 0) hlo hhi hmx hok (Nat.le_refl _) (Nat.le_refl _) (Nat.le_refl _)
    exact ⟨.slice none 0 0, by simp [Instr.sliceAt, hd3, Instr.slice, this, hs2.size], .nils⟩
  · -- a slice
    next ety n o ln cap hd =>
    rw [hd] at hd2
    obtain rfl := DR.sl hd2
    obtain ⟨z, hz, e3⟩ := oE_none_eq e2
    obtain ⟨_, _, hs1, hs2⟩ := sizeT_ok hE hz
    obtain ⟨h, hhi, e4⟩ := oE_none_eq e3
    have hsz := hs2.size w
    rw [hs1] at hsz
    cases cap with
    | fix c =>
      obtain ⟨m, hmx, e5⟩ := oE_none_eq (show oE (oN tm c mx) none (fun m => slFix n o z l h m c) = some v from e4)
      obtain ⟨rfl, h1, h2, h3⟩ := slFix_eq e5
      have hb := bounds_ok (P := P) (w := w) hT (isS := true) (len := ln) (cap := c) hlo hhi hmx hok h1 h2 h3
      cases hx with
      | slf n o ln c L hL =>
        refine ⟨.slice (some (L.adr (if m = l then o else o + l * z))) (h - l) (m - l), ?_, .slf _ _ _ _ L hL⟩
        simp only [Instr.sliceAt, Sem.run_bind, hd3, Result.andThen_ok, Instr.slice, hb, hsz, Sem.run_pure, Option.map_some]
        rw [← ite_adr]
        split <;> rfl
      | slx n o a' ha =>
        obtain rfl : m = 0 := by omega
        obtain rfl : h = 0 := by omega
        obtain rfl : l = 0 := by omega
        refine ⟨.slice (some a') 0 0, ?_, .slx _ _ _ ha⟩
        simp only [Instr.sliceAt, Sem.run_bind, hd3, Result.andThen_ok, Instr.slice, hb, hsz, Sem.run_pure, if_pos]
    | el sz =>
      obtain ⟨hq, e5⟩ := bE_none_eq (show bE (Nat.beq sz z) _ none = some v from e4)
      obtain rfl := beq_true hq
      cases mx with
      | none =>
        obtain ⟨rfl, h1, h2⟩ := slEl_eq (show slEl n o sz l h ln (.el sz) = some v from e5)
        cases hx with
        | sle n o ln z cap L hL h3 h4 =>
          have hb := bounds_ok (P := P) (w := w) hT (isS := true) (len := ln) (cap := cap) hlo hhi (mx := none) rfl hok h1 (by omega) (Nat.le_refl _)
          refine ⟨.slice (some (if cap = l then L.adr o else (L.adr o).add (l * sz))) (h - l) (cap - l), ?_, ?_⟩
          · simp only [Option.map_none] at hb
            simp only [Instr.sliceAt, Sem.run_bind, hd3, Result.andThen_ok, Instr.slice, Option.map_none, hb, hsz, Sem.run_pure, Option.map_some]
            split <;> rfl
          · by_cases hc : cap = l
            · subst hc
              rw [if_pos rfl]
              obtain rfl : h = cap := by omega
              simp only [Nat.sub_self]
              exact .slz n _ sz L _ hL h3 rfl
            · rw [if_neg hc, adr_add]
              have hle : l ≤ cap := by omega
              refine .sle n _ _ sz _ L hL ?_ (by omega)
              rw [Nat.add_assoc, ← Nat.add_mul, Nat.add_sub_cancel' hle]; exact h3
        | slz n o z L a' hL h3 ha =>
          obtain rfl : h = 0 := by omega
          obtain rfl : l = 0 := by omega
          have hb := bounds_ok (P := P) (w := w) hT (isS := true) (len := 0) (cap := 0) hlo hhi (mx := none) rfl hok h1 (by omega) (Nat.le_refl _)
          refine ⟨.slice (some a') 0 0, ?_, ?_⟩
          · simp only [Option.map_none] at hb
            simp only [Instr.sliceAt, Sem.run_bind, hd3, Result.andThen_ok, Instr.slice, Option.map_none, hb, hsz, Sem.run_pure, if_pos]
          · exact .slz n _ sz L a' hL (by simpa using h3) ha
      | some mo =>
        obtain ⟨mv, hmv, e6⟩ := oE_none_eq (show oE (ev tm mo) none _ = some v from e5)
        obtain ⟨m, hm, e7⟩ := oE_none_eq e6
        obtain ⟨rfl, h1, h2, h3⟩ := slFix_eq e7
        have hmx : ∀ c, oN tm c (some mo) = some m := fun c => by
          show oE (ev tm mo) none inN = some m
          rw [hmv]; exact hm
        cases hx with
        | sle n o ln z cap L hL h4 h5 =>
          have hb := bounds_ok (P := P) (w := w) hT (isS := true) (len := ln) (cap := cap) hlo hhi (hmx cap) hok h1 h2 (by omega)
          simp only [Option.map_some] at hb
          refine ⟨.slice (some (L.adr (if m = l then o else o + l * sz))) (h - l) (m - l), ?_, .slf _ _ _ _ L hL⟩
          simp only [Instr.sliceAt, Sem.run_bind, hd3, Result.andThen_ok, Instr.slice, hb, hsz, Sem.run_pure, Option.map_some]
          rw [← ite_adr]
          split <;> rfl
        | slz n o z L a' hL h4 ha =>
          obtain rfl : m = 0 := by omega
          obtain rfl : h = 0 := by omega
          obtain rfl : l = 0 := by omega
          have hb := bounds_ok (P := P) (w := w) hT (isS := true) (len := 0) (cap := 0) hlo hhi (hmx 0) hok h1 h2 (by omega)
          simp only [Option.map_some] at hb
          refine ⟨.slice (some a') 0 0, ?_, .slx _ _ _ ha⟩
          simp only [Instr.sliceAt, Sem.run_bind, hd3, Result.andThen_ok, Instr.slice, Option.map_some, hb, hsz, Sem.run_pure, if_pos]
  · -- an array behind a pointer
    next k ety n o hd =>
    rw [hd] at hd2
    obtain rfl := DR.arr hd2
    obtain ⟨z, hz, e3⟩ := oE_none_eq e2
    obtain ⟨_, _, hs1, hs2⟩ := sizeT_ok hE hz
    obtain ⟨h, hhi, e4⟩ := oE_none_eq e3
    have hsz := hs2.size w
    rw [hs1] at hsz
    cases mx with
    | some m => cases e4
    | none =>
      obtain ⟨rfl, h1, h2, h3⟩ := slFix_eq (show slFix n o z l h k k = some v from e4)
      have hb := bounds_ok (P := P) (w := w) hT (isS := false) (len := k) (cap := k) hlo hhi (mx := none) rfl hok h1 h2 h3
      cases hx with
      | ptr n o L hL =>
        refine ⟨.slice (some (L.adr (if k = l then o else o + l * z))) (h - l) (k - l), ?_, .slf _ _ _ _ L hL⟩
        simp only [Instr.sliceAt, Sem.run_bind, hd3, Result.andThen_ok, Instr.sureAddr, Sem.run_pure, hb, hsz]
        rw [← ite_adr]
  · cases e2
end
end Go.Ab
namespace Go.Ab
open Go.RowKit (Below)
section
variable {P : Program} {E : Env} {B : Nat} {ρ : Rho} {G : Hp} {w : World}

/-! Rows, as they are read. -/
theorem slice_cells {n o : Nat} {k : BK} {cs l : List AV} {m : Nat} {L : Loc} (rh : RH B ρ G w) (hG : G n = some (.cells k cs)) (hL : ρ n = some L) (hl : sub cs o m = some l) :
    ∃ x : List Value, RVs ρ l x ∧ x.length = m ∧ (∀ w', (∀ i, w'.cell? (L.adr i) = w.cell? (L.adr i)) → (loadCells (L.adr o) m).run P w' = .ok x.toArray w') := by
  obtain ⟨x, h1, h2⟩ := list_of_cells (fun i v => read_cells rh hG hL i) o m hl
  have hx : x.length = m := by rw [← h1.length]; exact sub_length hl
  refine ⟨x, h1, hx, fun w' hw => ?_⟩
  have := run_cells (P := P) (w := w') (L := L) (o := o) (x := x) (fun j u hj => by rw [hw]; exact h2 j u hj)
  rwa [hx] at this
theorem sub_zero_nil {α : Type} {cs l : List α} {o : Nat} (h : sub cs o 0 = some l) : l = [] := List.eq_nil_of_length_eq_zero (sub_length h)
theorem u8s_rv (s : ByteArray) : RVs ρ ((bytesOf s).map u8) (s.data.toList.map fun b => Value.int .u8 b.toNat) := by
  refine RVs.of_get (by simp [bytesOf]) fun i v hv => ?_
  simp [bytesOf] at hv
  obtain ⟨b, hb, rfl⟩ := hv
  exact ⟨.int .u8 b.toNat, by simp [hb], .int _ _⟩
/-- firstCells, in a world that holds the same cells -/
theorem rowOf_ok {s : St} {z : Nat} {x : AV} {X : Value} {l : List AV} {m : Nat} (rh : RH B ρ G w) (hx : RV ρ x X) (e : rowOf s.h z x = some l) (hm : lenV x = some m)
    (hp : ∀ n ∈ refsV x, ∀ b, s.h.get n = some b → G n = some b) :
    ∃ N : Array Value, RVs ρ l N.toList ∧ (∀ w0 : World, (Builtin.lenOf X).run P w0 = .ok m w0) ∧ (∀ d, (Builtin.firstCells z m X).run P { w with drawn := d } = .ok N { w with drawn := d }) ∧
      ((∃ s, x = .str s) ∨ l.length = m * z) := by
  unfold rowOf at e
  split at e
  · cases e; cases hm; cases hx
    exact ⟨#[], .nil, fun _ => rfl, fun _ => rfl, .inr (by simp)⟩
  · next n o ln cap =>
    cases hm
    obtain ⟨cs, hcs, e1⟩ := oE_none_eq e
    obtain ⟨k, hk⟩ := cellsAt_eq hcs
    have hG := hp n (by simp [refsV, asPtr, oE]) _ hk
    have key : ∀ (L : Loc), ρ n = some L → ∃ N : Array Value, RVs ρ l N.toList ∧ (∀ d, (loadCells (L.adr o) (m * z)).run P { w with drawn := d } = .ok N { w with drawn := d }) := by
      intro L hL
      obtain ⟨x, h1, h2, h3⟩ := slice_cells (P := P) rh hG hL (show sub cs o (m * z) = some l from e1)
      exact ⟨x.toArray, by simpa using h1, fun d => h3 _ fun i => rfl⟩
    have hlen := sub_length (show sub cs o (m * z) = some l from e1)
    cases hx with
    | slf n o ln c L hL =>
      obtain ⟨N, h1, h2⟩ := key L hL
      exact ⟨N, h1, fun _ => rfl, fun d => by simpa [Builtin.firstCells] using h2 d, .inr hlen⟩
    | sle n o ln z' c L hL _ _ =>
      obtain ⟨N, h1, h2⟩ := key L hL
      exact ⟨N, h1, fun _ => rfl, fun d => by simpa [Builtin.firstCells] using h2 d, .inr hlen⟩
    | slz n o z' L a hL _ _ =>
      have : l = [] := sub_zero_nil (o := o) (cs := cs) (by simpa using e1)
      subst this
      exact ⟨#[], .nil, fun _ => rfl, fun d => by simp [Builtin.firstCells, loadCells, loadCellsFrom], .inr (by simp)⟩
    | slx n o a _ =>
      have : l = [] := sub_zero_nil (o := o) (cs := cs) (by simpa using e1)
      subst this
      exact ⟨#[], .nil, fun _ => rfl, fun d => by simp [Builtin.firstCells, loadCells, loadCellsFrom], .inr (by simp)⟩
  · next s' =>
    cases e; cases hm
    cases hx with
    | str S =>
      refine ⟨S.data.map fun b => .int .u8 b.toNat, by simpa using u8s_rv S, fun _ => by rw [len_eq, bytesOf_length]; rfl, fun d => ?_, .inl ⟨_, rfl⟩⟩
      rw [len_eq, bytesOf_length]
      have : S.extract 0 S.size = S := by
        exact ByteArray.extract_zero_size
      simp [Builtin.firstCells, this]
  · cases e
/-! append. -/
theorem growBy_le (need : Nat) : ∀ (r c : Nat), c ≤ need + (need + 768) / 4 → Builtin.growBy need r c ≤ need + (need + 768) / 4
  | 0, c, h => h
  | r + 1, c, h => by
    unfold Builtin.growBy
    split
    · exact h
    · exact growBy_le need r _ (by omega)
theorem nextcap_le {need cap : Nat} (h : cap < need) : Builtin.nextslicecap need cap ≤ 2 * need + 192 := by
  unfold Builtin.nextslicecap
  split
  · omega
  · split
    · omega
    · have := growBy_le need 4 cap (by omega); omega
theorem zeroCells_size (z : Array Value) (n : Nat) : (Builtin.zeroCells z n).size = n * z.size := by simp [Builtin.zeroCells]
theorem drew_below (w : World) (d : Nat) : Below B w { w with drawn := d } := ⟨rfl, rfl, rfl, Nat.le_refl _, fun _ _ => rfl⟩
/-- Memory laid anew behind an append. -/
theorem grow_ok {c : Nat} {el : Nat} {old new_ : List AV} {X N R : Array Value} {d K : Nat} (rh : RH B ρ G w) (hB : B ≤ w.heap.size) (fr : ρ c = none) (h1 : RVs ρ old X.toList) (h2 : RVs ρ new_ N.toList)
    (hK : K = X.size + N.size + R.size) :
    RH B (upF ρ c (some ⟨w.heap.size, 0, K, undef, 0⟩)) (upF G c (some (.cells .el (old ++ new_)))) (({ w with drawn := d } : World).alloc (.cells (X ++ N ++ R) el)) := by
  have hle := le_upF fr ⟨w.heap.size, 0, K, undef, 0⟩
  have hl1 := h1.length
  have hl2 := h2.length
  simp at hl1 hl2
  refine RH.new (w := { w with drawn := d }) (rh.drew d) fr (.cells (X ++ N ++ R) el) K (.cells .el (old ++ new_)) (RB.fresh (w := { w with drawn := d }) hB (fun i v hv => ?_) (.inr ⟨rfl, by simp; omega, by simp; omega⟩))
  have hr := (h1.append h2).mono hle
  obtain ⟨u, hu, hrv⟩ := hr.get i hv
  have hi : i < X.size + N.size := by
    have := (List.getElem?_eq_some_iff.1 hu).1
    simpa using this
  refine ⟨u, ?_, hrv⟩
  rw [Array.getElem?_append_left (by simpa using hi)]
  simpa [← Array.getElem?_toList] using hu

/-- An old block is given up, and a part of its room taken by a new one. -/
theorem RH.move (rh : RH B ρ G w) {n c o p : Nat} {cs old new_ : List AV} {N : List Value} {L : Loc} (hG : G n = some (.cells .el cs)) (hL : ρ n = some L) (fr : ρ c = none)
    (hold : sub cs o p = some old) (hN : RVs ρ new_ N) (hroom : o + p + new_.length ≤ L.K) :
    RH B (upF ρ c (some ⟨L.blk, L.base + o, L.K - o, undef, 0⟩)) (upF (upF G n (some .dead)) c (some (.cells .el (old ++ new_)))) (w.setCells L.blk (L.base + (o + p)) N) := by
  obtain ⟨M, hM, hr⟩ := rh.blk n _ hG
  rw [hL] at hM; cases hM
  have hnl := hN.length
  have hol := sub_length hold
  have hcn : n ≠ c := fun h => by rw [h, fr] at hL; cases hL
  have hle := le_upF fr ⟨L.blk, L.base + o, L.K - o, undef, 0⟩
  have h1 : RH B ρ (upF G n (some .dead)) (w.setCells L.blk (L.base + (o + p)) N) := by
    refine rh.upd hG hL rfl (setCells_size _ _ _ _) (fun b hb => setCells_other _ _ _ _ _ hb) ?_ (fun i hi => ?_) (fun a => World.frozen?_setCells _ _ _ _ _) trivial (fun i hi => hi.elim)
    · cases N with
      | nil => exact .inl rfl
      | cons u N => exact .inr ⟨L.base + (o + p), by omega, by simp at hnl; simp [ext']; omega⟩
    · refine World.cell?_setCells_out _ _ _ _ _ fun _ _ => ?_
      have : ¬ (L.base ≤ i ∧ i < L.base + L.K) := hi
      simp only
      omega
  have hcell : ∀ i, i < L.K → ∃ u, (w.setCells L.blk (L.base + (o + p)) N).cell? (L.adr i) = some u := by
    intro i hi
    by_cases hin : o + p ≤ i ∧ i < o + p + N.length
    · have := World.cell?_setCells_in L.blk N (L.base + (o + p)) w (fun j hj => by
        obtain ⟨u, hu⟩ := (hr.2.2.2 (o + p + j) (by omega)).2
        unfold Loc.adr at hu
        rw [Nat.add_assoc, hu]; rfl) (i - (o + p)) (by omega)
      refine ⟨N[i - (o + p)]'(by omega), ?_⟩
      unfold Loc.adr
      rw [show L.base + i = L.base + (o + p) + (i - (o + p)) by omega]
      exact this
    · obtain ⟨u, hu⟩ := (hr.2.2.2 i hi).2
      refine ⟨u, ?_⟩
      rw [World.cell?_setCells_out]
      · exact hu
      · intro _ _; unfold Loc.adr; simp only; omega
  have hadr : ∀ i, (Loc.mk L.blk (L.base + o) (L.K - o) undef 0).adr i = L.adr (o + i) := fun i => by simp [Loc.adr, Nat.add_assoc]
  have hb : RB B (upF ρ c (some ⟨L.blk, L.base + o, L.K - o, undef, 0⟩)) (w.setCells L.blk (L.base + (o + p)) N) ⟨L.blk, L.base + o, L.K - o, undef, 0⟩ (.cells .el (old ++ new_)) := by
    refine ⟨fun i v hv => ?_, hr.2.1, by simp; omega, fun i hi => ?_⟩
    · rw [hadr]
      rcases Nat.lt_or_ge i p with hip | hip
      · rw [List.getElem?_append_left (by omega), sub_get hold i hip] at hv
        obtain ⟨u, hu, hrv⟩ := hr.1 (o + i) v hv
        refine ⟨u, ?_, hrv.mono hle⟩
        rw [World.cell?_setCells_out]
        · exact hu
        · intro _ _; unfold Loc.adr; simp only; omega
      · rw [List.getElem?_append_right (by omega), hol] at hv
        obtain ⟨u, hu, hrv⟩ := hN.get _ hv
        have hj := (List.getElem?_eq_some_iff.1 hu).1
        refine ⟨u, ?_, hrv.mono hle⟩
        have := World.cell?_setCells_in L.blk N (L.base + (o + p)) w (fun j hj => by
          obtain ⟨u, hu⟩ := (hr.2.2.2 (o + p + j) (by omega)).2
          unfold Loc.adr at hu
          rw [Nat.add_assoc, hu]; rfl) (i - p) hj
        unfold Loc.adr
        rw [show L.base + (o + i) = L.base + (o + p) + (i - p) by omega, this]
        rw [List.getElem?_eq_getElem hj] at hu
        exact hu
    · rw [hadr]
      have hi' : o + i < L.K := by have : i < L.K - o := hi; omega
      exact ⟨by rw [World.frozen?_setCells]; exact (hr.2.2.2 _ hi').1, hcell _ hi'⟩
  have hdisj : ∀ m a M, (upF G n (some AB.dead)) m = some a → ρ m = some M → ∀ i, (AB.cells .el (old ++ new_)).has ⟨L.blk, L.base + o, L.K - o, undef, 0⟩ i → a.has M i → L.blk = M.blk → False := by
    intro m a M hm hM i hi ha hblk
    by_cases h : m = n
    · subst h
      rw [upF_same] at hm; cases hm
      exact ha
    · rw [upF_other _ _ _ h] at hm
      have : L.base + o ≤ i ∧ i < L.base + o + (L.K - o) := hi
      exact rh.dis n m _ a L M hG hm hL hM (Ne.symm h) rfl i ⟨by omega, by show i < L.base + L.K; omega⟩ ha hblk
  refine ⟨fun m a hm => ?_, fun m k a b M N' ha hb' hM hN' hmk hown i hai hbi hblk => ?_, fun m M hm => ?_⟩
  · by_cases h : m = c
    · subst h
      rw [upF_same] at hm; cases hm
      exact ⟨_, upF_same _ _ _, hb⟩
    · rw [upF_other _ _ _ h] at hm
      obtain ⟨M, h2, h3⟩ := h1.blk m a hm
      exact ⟨M, by rw [upF_other _ _ _ h]; exact h2, h3.mono hle⟩
  · by_cases h : m = c
    · subst h
      rw [upF_same] at ha hM; cases ha; cases hM
      rw [upF_other _ _ _ (Ne.symm hmk)] at hb' hN'
      exact hdisj k b N' hb' hN' i hai hbi hblk
    · by_cases h' : k = c
      · subst h'
        rw [upF_same] at hb' hN'; cases hb'; cases hN'
        rw [upF_other _ _ _ h] at ha hM
        exact hdisj m a M ha hM i hbi hai hblk.symm
      · rw [upF_other _ _ _ h] at ha hM
        rw [upF_other _ _ _ h'] at hb' hN'
        exact h1.dis m k a b M N' ha hb' hM hN' hmk hown i hai hbi hblk
  · by_cases h : m = c
    · subst h
      rw [upF_same] at hm; cases hm
      rw [setCells_size]
      exact rh.inn n L hL
    · rw [upF_other _ _ _ h] at hm
      exact h1.inn m M hm

theorem elCells_eq {h : Tr AB} {n : Nat} {c : List AV} (e : elCells h n = some c) : h.get n = some (.cells .el c) := by
  obtain ⟨b, hb, e1⟩ := oE_none_eq e
  cases b with
  | cells k c' => cases k <;> simp at e1; subst e1; exact hb
  | amap _ => simp at e1
  | siter _ _ => simp at e1
  | dead => simp at e1
/-- What the two ways of the built-in append come to. -/
theorem append_in {tS tX ty el z m ln cap : Nat} {dX : TypeDesc} {base : Addr} {Y : Value} {N : Array Value} {w w' : World} (hS : P.underlying tS = some (.slice el)) (hX : P.underlying tX = some dX) (hni : (∃ e, dX = .slice e) ∨ dX = .string)
    (hz : ∀ w, (sizeOf el).run P w = .ok z w) (hl : (Builtin.lenOf Y).run P w = .ok m w) (hf : (Builtin.firstCells z m Y).run P w = .ok N w) (hc : ln + m ≤ cap)
    (hst : (storeCells (base.add (ln * z)) N.toList).run P w = .ok () w') :
    (Builtin.append_ #[tS, tX] ty #[.slice (some base) ln cap, Y]).run P w = .ok (.slice (some base) (ln + m) cap) w' := by
  rcases hni with ⟨e, rfl⟩ | rfl <;> simp [Builtin.append_, run_underlying hS, run_underlying hX, hz, hl, hc, hf, hst]
theorem append_out {tS tX ty el z m ln cap : Nat} {dX : TypeDesc} {base : Option Addr} {Y : Value} {N X : Array Value} {Z : Value} {f : TypeInfo} {w : World} (hS : P.underlying tS = some (.slice el)) (hX : P.underlying tX = some dX) (hni : (∃ e, dX = .slice e) ∨ dX = .string)
    (hz : ∀ w, (sizeOf el).run P w = .ok z w) (hl : (Builtin.lenOf Y).run P w = .ok m w) (hf : ∀ d, (Builtin.firstCells z m Y).run P { w with drawn := d } = .ok N { w with drawn := d })
    (ho : ∀ d, (Builtin.firstCells z ln (.slice base ln cap)).run P { w with drawn := d } = .ok X { w with drawn := d }) (hc : cap < ln + m) (hti : ∀ w, (typeInfo el).run P w = .ok f w)
    (hzv : ∀ w, (zeroValue el).run P w = .ok Z w) (hb0 : f.bytes ≤ 1048576) (hsm : ln + m ≤ 1048576) :
    ∃ nc d, ln + m ≤ nc ∧ (Builtin.append_ #[tS, tX] ty #[.slice base ln cap, Y]).run P w = .ok (.slice (some ⟨w.heap.size, 0, none⟩) (ln + m) nc) (({ w with drawn := d } : World).alloc (.cells (X ++ N ++ Builtin.zeroCells Z.cells (nc - (ln + m))) el)) := by
  have h1 : ¬ (ln + m ≤ cap) := by omega
  have h2 := nextcap_le hc
  have h3 : ¬ (((ln + m : Nat) : Int) > IntKind.i64.max) := by simp [IntKind.max, IntKind.signed, IntKind.bits]; omega
  have h4 : ¬ (Builtin.nextslicecap (ln + m) cap * f.bytes > 2 ^ 48) := by
    have : Builtin.nextslicecap (ln + m) cap * f.bytes ≤ (2 * 1048576 + 192) * 1048576 := Nat.mul_le_mul (by omega) hb0
    have : (2 : Nat) ^ 48 = 281474976710656 := rfl
    omega
  refine ⟨(Question.appendCap (ln + m) cap el).cut (w.tape w.drawn (.appendCap (ln + m) cap el)), w.drawn + 1, by simp [Question.cut], ?_⟩
  have h6 : (Question.appendCap (ln + m) cap el).forced = false := rfl
  have ho' : (Builtin.firstCells z ln (.slice base ln cap)).run P w.drew = .ok X w.drew := ho (w.drawn + 1)
  have hf' : (Builtin.firstCells z m Y).run P w.drew = .ok N w.drew := hf (w.drawn + 1)
  have h7 : ¬ (9223372036854775807 < (ln : Int) + (m : Int) ∧ f.bytes = 0) := fun h => by omega
  have h8 : ¬ (281474976710656 < Builtin.nextslicecap (ln + m) cap * f.bytes) := fun h => h4 h
  rcases hni with ⟨e, rfl⟩ | rfl <;>
    simp [Builtin.append_, run_underlying hS, run_underlying hX, hz, hl, h1, hti, h7, h8, h6, ho', hf', hzv, newRow]
theorem append_none {tS tX ty el z ln cap : Nat} {dX : TypeDesc} {base : Option Addr} {Y : Value} {N : Array Value} {w : World} (hS : P.underlying tS = some (.slice el)) (hX : P.underlying tX = some dX) (hni : (∃ e, dX = .slice e) ∨ dX = .string)
    (hz : ∀ w, (sizeOf el).run P w = .ok z w) (hl : (Builtin.lenOf Y).run P w = .ok 0 w) (hf : (Builtin.firstCells z 0 Y).run P w = .ok N w) (hN : N.size = 0) (hc : ln ≤ cap) :
    (Builtin.append_ #[tS, tX] ty #[.slice base ln cap, Y]).run P w = .ok (.slice base ln cap) w := by
  obtain rfl : N = #[] := Array.eq_empty_of_size_eq_zero hN
  rcases hni with ⟨e, rfl⟩ | rfl <;> cases base <;> simp [Builtin.append_, run_underlying hS, run_underlying hX, hz, hl, hc, hf, storeCells]
theorem small_eq {n b : Nat} (h : small n b = true) : n ≤ 1048576 ∧ b ≤ 1048576 := by
  unfold small at h
  simp only [Bool.and_eq_true] at h
  exact ⟨ble_true h.1, ble_true h.2⟩
theorem newEl_eq {s : St} {c : List AV} {f : Nat → AV} {v : AV} {h : Tr AB} {c' : Nat} {tl : List Nat} (e : new s .el c f = .ok v h c' tl) : v = f s.c ∧ h = s.h.set s.c (.cells .el c) ∧ c' = s.c + 1 ∧ tl = [] := by
  rw [show new s .el c f = newO s (.cells .el c) f from rfl, newO_eq] at e
  cases e
  exact ⟨rfl, rfl, rfl, rfl⟩
/-- behind a new array -/
theorem grow_aft {s : St} {el d nc z ln m : Nat} {old new_ : List AV} {X N R : Array Value} (rh : RH B ρ G w) (hB : B ≤ w.heap.size) (fr : ρ s.c = none) (h1 : RVs ρ old X.toList) (h2 : RVs ρ new_ N.toList)
    (hX : X.size = ln * z) (hN : N.size = m * z) (hR : R.size = (nc - (ln + m)) * z) (hnc : ln + m ≤ nc) :
    AftO B ρ G w s (.sl s.c 0 (ln + m) (.el z)) (s.h.set s.c (.cells .el (old ++ new_))) (s.c + 1) [] (.slice (some ⟨w.heap.size, 0, none⟩) (ln + m) nc)
      (upF ρ s.c (some ⟨w.heap.size, 0, nc * z, undef, 0⟩)) (upF G s.c (some (.cells .el (old ++ new_)))) (({ w with drawn := d } : World).alloc (.cells (X ++ N ++ R) el)) := by
  have hK : nc * z = X.size + N.size + R.size := by
    rw [hX, hN, hR, ← Nat.add_mul, ← Nat.add_mul, Nat.add_sub_cancel' hnc]
  have hg := grow_ok (el := el) (d := d) (K := nc * z) rh hB fr h1 h2 hK
  refine ⟨⟨by omega, le_upF fr _, fun n hn => upF_other _ _ _ (by omega), ?_, hg, fun n _ hn => upF_other _ _ _ (by omega), fun n o' h hh => ?_, fun n _ hn => by rw [Tr.get_set, if_neg (by omega)], (drew_below w d).trans (Below.alloc (Below.refl B { w with drawn := d }) hB _)⟩, (StepD.new (w := { w with drawn := d }) (rh.drew d) fr _ _ _).of_drew⟩
  · have := RV.sle (ρ := upF ρ s.c (some ⟨w.heap.size, 0, nc * z, undef, 0⟩)) s.c 0 (ln + m) z nc ⟨w.heap.size, 0, nc * z, undef, 0⟩ (upF_same _ _ _) (by simp) hnc
    simpa [Loc.adr] using this
  · rcases h with h | h
    · simp at h
    · obtain rfl : n = s.c := by omega
      rw [Tr.get_set, if_pos rfl] at hh; cases hh; exact upF_same _ _ _
theorem move_aft {s : St} {n : Nat} {L L' : Loc} {o b : AB} {v : AV} {u : Value} {w' : World} (rh0 : RH B ρ G w) (hG : G n = some o) (hown : o.own = true) (hL' : w.heap.size ≤ L'.blk ∨ L'.blk = L.blk) (htg : L'.tag = 0) (hfr : ∀ k, k ≠ L.blk → k < w.heap.size → w'.heap[k]? = w.heap[k]?) (hL : ρ n = some L) (fr : ρ s.c = none)
    (rh : RH B (upF ρ s.c (some L')) (upF (upF G n (some .dead)) s.c (some b)) w') (rv : RV (upF ρ s.c (some L')) v u) (bel : Below B w w') :
    AftO B ρ G w s v ((s.h.set n .dead).set s.c b) (s.c + 1) [n] u (upF ρ s.c (some L')) (upF (upF G n (some .dead)) s.c (some b)) w' := by
  have hne : n ≠ s.c := fun h => by rw [h, fr] at hL; cases hL
  have hst : StepD ρ G w (upF ρ s.c (some L')) (upF (upF G n (some .dead)) s.c (some b)) w' := by
    have hGc : G s.c = none := by
      cases hg : G s.c with
      | none => rfl
      | some x =>
        obtain ⟨M, hM, _⟩ := rh0.blk _ _ hg
        rw [fr] at hM
        cases hM
    refine ⟨le_upF fr _, fun k hk h => hfr k (fun e => h n o L hG hown hL e.symm) hk, bel.size, fun m hm M hM => ?_, fun m hm M hM => ?_, fun m x hx hx2 => ?_, fun m x hx => ?_⟩
    · by_cases h : m = s.c
      · subst h
        rw [upF_same] at hM
        cases hM
        rcases hL' with h1 | h1
        · exact .inl h1
        · exact .inr ⟨n, o, L, hG, hown, hL, h1.symm⟩
      · rw [upF_other _ _ _ h, hm] at hM
        cases hM
    · by_cases h : m = s.c
      · subst h
        rw [upF_same] at hM
        cases hM
        exact htg
      · rw [upF_other _ _ _ h, hm] at hM
        cases hM
    · rw [upF_other _ _ _ (fun h => by subst h; rw [hGc] at hx; cases hx), upF_other _ _ _ (fun h => by subst h; rw [hG] at hx; cases hx; rw [hown] at hx2; cases hx2)]
      exact hx
    · by_cases h : m = s.c
      · subst h
        exact .inr fr
      · rw [upF_other _ _ _ h] at hx
        by_cases h2 : m = n
        · subst h2
          exact .inl ⟨o, hG, fun _ => hown⟩
        · rw [upF_other _ _ _ h2] at hx
          exact .inl ⟨x, hx, fun h => h⟩
  refine ⟨⟨by omega, le_upF fr _, fun m hm => upF_other _ _ _ (by omega), rv, rh, fun m hm hc => ?_, fun m o h hh => ?_, fun m hm hc => by rw [Tr.get_set, if_neg (by omega), Tr.get_set, if_neg (by simpa using hm)], bel⟩, hst⟩
  · rw [upF_other _ _ _ (by omega), upF_other _ _ _ (by simpa using hm)]
  · rw [Tr.get_set, Tr.get_set] at hh
    by_cases h1 : m = s.c
    · rw [if_pos h1] at hh; cases hh; subst h1; exact upF_same _ _ _
    · rw [if_neg h1] at hh
      have h2 : m = n := by
        rcases h with h | h
        · simpa using h
        · omega
      rw [if_pos h2] at hh; cases hh; subst h2
      rw [upF_other _ _ _ h1, upF_same]
theorem append_ok (hE : EnvOK P E) {s : St} {tS tX ty el : Nat} {ei : TI} {dX : TypeDesc} {m : Nat} {new_ : List AV} {N : Array Value} {Y X : Value} {x v : AV} {h : Tr AB} {c : Nat} {tl : List Nat}
    (hS : P.underlying tS = some (.slice el)) (hT : TyOK P el ei) (hX : P.underlying tX = some dX) (hni : (∃ e, dX = .slice e) ∨ dX = .string) (hl : ∀ w0, (Builtin.lenOf Y).run P w0 = .ok m w0)
    (hf : ∀ d, (Builtin.firstCells ei.size m Y).run P { w with drawn := d } = .ok N { w with drawn := d }) (hN : RVs ρ new_ N.toList) (hnl : new_.length = m * ei.size) (hz0 : ei.size ≠ 0)
    (hx : RV ρ x X) (e : append s ei.size ei.bytes m new_ x = .ok v h c tl) (rh : RH B ρ G w) (hB : B ≤ w.heap.size) (hp : ∀ n ∈ refsV x, ∀ b, s.h.get n = some b → G n = some b)
    (fr : ∀ n, s.c ≤ n → n < c → ρ n = none) :
    ∃ u w' ρ' G', (Builtin.append_ #[tS, tX] ty #[X, Y]).run P w = .ok u w' ∧ AftO B ρ G w s v h c tl u ρ' G' w' := by
  have hNs : N.size = m * ei.size := by have := hN.length; simp at this; omega
  obtain ⟨f, _, hfb, hti⟩ := hT.bytes
  obtain ⟨Z, hZ, _, hzv⟩ := hT.zero
  have hZs : Z.cells.size = ei.size := by have := (hZ ρ).length; have := hT.zlen; simp at *; omega
  have hf0 : (Builtin.firstCells ei.size m Y).run P w = .ok N w := hf w.drawn
  unfold append at e
  cases hm : Nat.beq m 0 with
  | true =>
    obtain rfl := beq_true hm
    rw [show Nat.beq 0 Nat.zero = true from rfl, bE_true] at e
    obtain ⟨h1, h2⟩ := bE_no_eq e
    rw [pure_eq] at h2
    cases h2
    have key : ∀ (base : Option Addr) (ln cap : Nat), X = .slice base ln cap → ln ≤ cap → ∃ u w' ρ' G', (Builtin.append_ #[tS, tX] ty #[X, Y]).run P w = .ok u w' ∧ AftO B ρ G w s x s.h s.c [] u ρ' G' w' := by
      intro base ln cap hX' hle
      subst hX'
      exact ⟨_, _, _, _, append_none hS hX hni hT.size (hl w) hf0 (by omega) hle, AftO.pure rh hx⟩
    cases hx with
    | nils => exact key _ _ _ rfl (Nat.le_refl _)
    | slf n o ln c L hL => exact key _ _ _ rfl (ble_true h1)
    | sle n o ln z cap L hL _ h3 => exact key _ _ _ rfl h3
    | slz n o z L a _ _ _ => exact key _ _ _ rfl (Nat.le_refl _)
    | slx n o a _ => exact key _ _ _ rfl (Nat.le_refl _)
    | _ => simp [capOK] at h1
  | false =>
    have hm0 : m ≠ 0 := beq_false hm
    rw [show Nat.beq m Nat.zero = false from hm, bE_false] at e
    have hmz : 0 < m * ei.size := Nat.mul_pos (by omega) (by omega)
    unfold appSome at e
    split at e
    · obtain ⟨h1, h2⟩ := bE_no_eq e
      obtain ⟨h3, h4⟩ := small_eq h1
      obtain ⟨rfl, rfl, rfl, rfl⟩ := newEl_eq h2
      cases hx
      obtain ⟨nc, d, h5, h6⟩ := append_out (ty := ty) (X := #[]) hS hX hni hT.size (hl w) hf (ln := 0) (cap := 0) (base := none) (fun _ => rfl) (by omega) hti hzv (by omega) (by omega)
      have h7 := grow_aft (s := s) (el := el) (d := d) (nc := nc) (z := ei.size) (ln := 0) (m := m) (old := []) (X := #[]) (R := Builtin.zeroCells Z.cells (nc - (0 + m))) rh hB (fr _ (Nat.le_refl _) (Nat.lt_succ_self _)) .nil hN (by simp) hNs (by rw [zeroCells_size, hZs]) h5
      simp only [Nat.zero_add, List.nil_append] at h6 h7
      exact ⟨_, _, _, _, h6, h7⟩
    · next n o ln cap =>
      obtain ⟨h1, h2⟩ := bE_no_eq e
      obtain ⟨h3, h4⟩ := small_eq h1
      have h3 : ln + m ≤ 1048576 := h3
      have grow : ∀ (old : List AV) (base : Option Addr) (cap' : Nat) (XX : Array Value), X = .slice base ln cap' → cap' < ln + m → RVs ρ old XX.toList → XX.size = ln * ei.size → ρ s.c = none →
          (∀ d, (Builtin.firstCells ei.size ln (.slice base ln cap')).run P { w with drawn := d } = .ok XX { w with drawn := d }) →
          ∃ nc d, ln + m ≤ nc ∧ (Builtin.append_ #[tS, tX] ty #[X, Y]).run P w = .ok (.slice (some ⟨w.heap.size, 0, none⟩) (ln + m) nc) (({ w with drawn := d } : World).alloc (.cells (XX ++ N ++ Builtin.zeroCells Z.cells (nc - (ln + m))) el)) := by
        intro old base cap' XX hX' hlt _ _ _ ho
        subst hX'
        exact append_out hS hX hni hT.size (hl w) hf ho hlt hti hzv (by omega) h3
      unfold appCap at h2
      split at h2
      · next cf =>
        cases hle : Nat.ble (Nat.add ln m) cf with
        | true =>
          rw [hle, bE_true] at h2
          have hle' : ln + m ≤ cf := ble_true hle
          cases hx with
          | slf n o ln c' L hL =>
            obtain ⟨h5, h6, h7⟩ := storeC_ok (P := P) rh hL hN h2 (hp n (by simp [refsV, asPtr, oE]))
            subst h6
            refine ⟨_, _, _, _, append_in hS hX hni hT.size (hl w) hf0 hle' (by rw [adr_add]; exact h5), h7 _ (.slf n o (ln + m) cf L hL)⟩
          | slx n o a _ => omega
        | false =>
          rw [hle, bE_false] at h2
          have hlt : cf < ln + m := ble_false hle
          obtain ⟨cs, hcs, e1⟩ := oE_no_eq h2
          obtain ⟨old, hold, e2⟩ := oE_no_eq e1
          obtain ⟨rfl, rfl, rfl, rfl⟩ := newEl_eq e2
          obtain ⟨k, hk⟩ := cellsAt_eq hcs
          have hG := hp n (by simp [refsV, asPtr, oE]) _ hk
          have frc := fr _ (Nat.le_refl _) (Nat.lt_succ_self _)
          cases hx with
          | slf n o ln c' L hL =>
            obtain ⟨x, h5, h6, h7⟩ := slice_cells (P := P) rh hG hL hold
            have h5' : RVs ρ old x.toArray.toList := by simpa using h5
            obtain ⟨nc, d, h8, h9⟩ := grow old _ _ x.toArray rfl hlt h5' (by simpa using h6) frc (fun d => by simpa [Builtin.firstCells] using h7 { w with drawn := d } (fun i => rfl))
            exact ⟨_, _, _, _, h9, grow_aft rh hB frc h5' hN (by simpa using h6) hNs (by rw [zeroCells_size, hZs]) h8⟩
          | slx n o a _ =>
            obtain rfl : old = [] := sub_zero_nil (by simpa using hold)
            obtain ⟨nc, d, h8, h9⟩ := grow [] _ _ #[] rfl hlt .nil (by simp) frc (fun d => by simp [Builtin.firstCells, loadCells, loadCellsFrom])
            have h7 := grow_aft (s := s) (el := el) (d := d) (nc := nc) (z := ei.size) (ln := 0) (m := m) (old := []) (X := #[]) (R := Builtin.zeroCells Z.cells (nc - (0 + m))) rh hB frc .nil hN (by simp) hNs (by rw [zeroCells_size, hZs]) h8
            exact ⟨_, _, _, _, h9, h7⟩
      · next sz =>
        obtain ⟨hq, e1⟩ := bE_no_eq h2
        simp only [Bool.and_eq_true] at hq
        obtain rfl := beq_true hq.1
        obtain ⟨cs, hcs, e2⟩ := oE_no_eq e1
        obtain ⟨old, hold, e3⟩ := oE_no_eq e2
        have hg := elCells_eq hcs
        have hG := hp n (by simp [refsV, asPtr, oE]) _ hg
        have hold' : sub cs o (ln * ei.size) = some old := hold
        cases hfit : Nat.ble (Nat.add o (Nat.mul (Nat.add ln m) ei.size)) (len cs) with
        | true =>
          rw [hfit, bE_true] at e3
          have hfit' : o + (ln + m) * ei.size ≤ cs.length := by have := ble_true hfit; rwa [len_eq] at this
          obtain ⟨cs', hput, e4⟩ := oE_no_eq e3
          rw [upd_eq] at e4
          cases e4
          have hput' : put new_ (o + ln * ei.size) cs = some cs' := hput
          cases hx with
          | sle n o ln z cap L hL h5 h6 =>
            obtain ⟨M, hM, hr⟩ := rh.blk n _ hG
            rw [hL] at hM; cases hM
            have hK := hr.2.2.1
            have hle : ln + m ≤ cap := by
              have h7 : (ln + m) * ei.size ≤ cap * ei.size := by omega
              exact Nat.le_of_mul_le_mul_right h7 (by omega)
            exact ⟨_, _, _, _, append_in hS hX hni hT.size (hl w) hf0 hle (by rw [adr_add]; exact run_put rh hG hL (by simp) hput' hN hq.2),
              AftO.upd hG hL rfl (fun k hk _ => setCells_other _ _ _ _ _ hk) (cells_upd rh hG hL (by simp) hput' hN) (.sle n o (ln + m) ei.size cap L hL h5 hle) (setCells_below _ hr.2.1 _ _ _)⟩
          | slz n o z L a hL h5 h6 =>
            obtain ⟨M, hM, hr⟩ := rh.blk n _ hG
            rw [hL] at hM; cases hM
            have hK := hr.2.2.1
            have : (0 + m) * ei.size = m * ei.size := by rw [Nat.zero_add]
            omega
        | false =>
          rw [hfit, bE_false] at e3
          have hfit' : cs.length < o + (ln + m) * ei.size := by have := ble_false hfit; rwa [len_eq] at this
          unfold appMove at e3
          rw [upd_eq] at e3
          have e4 : newN s.c (s.h.set n .dead) (.cells .el (old ++ new_)) (fun q => .sl q .zero (Nat.add ln m) (.el ei.size)) [n] = .ok v h c tl := e3
          rw [newN_eq] at e4
          cases e4
          have frc := fr _ (Nat.le_refl _) (Nat.lt_succ_self _)
          have hold'' := hold'
          have hol := sub_length hold'
          have dead : ∀ L, ρ n = some L → RH B ρ (upF G n (some .dead)) w := fun L hL =>
            rh.upd hG hL rfl rfl (fun _ _ => rfl) (.inl rfl) (fun _ _ => rfl) (fun _ => rfl) trivial (fun _ hi => hi.elim)
          have out : ∀ (L : Loc) (base : Option Addr) (cap' : Nat) (XX : Array Value), ρ n = some L → X = .slice base ln cap' → cap' < ln + m → RVs ρ old XX.toList → XX.size = ln * ei.size →
              (∀ d, (Builtin.firstCells ei.size ln (.slice base ln cap')).run P { w with drawn := d } = .ok XX { w with drawn := d }) →
              ∃ u w' ρ' G', (Builtin.append_ #[tS, tX] ty #[X, Y]).run P w = .ok u w' ∧ AftO B ρ G w s (.sl s.c .zero (Nat.add ln m) (.el ei.size)) ((s.h.set n .dead).set s.c (.cells .el (old ++ new_))) (s.c + 1) [n] u ρ' G' w' := by
            intro L base cap' XX hL hX' hlt h5 h6 ho
            obtain ⟨nc, d, h8, h9⟩ := grow old base cap' XX hX' hlt h5 h6 frc ho
            have h10 := grow_aft (s := s) (el := el) (d := d) (R := Builtin.zeroCells Z.cells (nc - (ln + m))) (dead L hL) hB frc h5 hN h6 hNs (by rw [zeroCells_size, hZs]) h8
            exact ⟨_, _, _, _, h9, move_aft rh hG rfl (.inl (Nat.le_refl _)) rfl (fun k _ hk => Go.RowKit.Below.heap_alloc ({ w with drawn := d } : World) _ _ hk) hL frc h10.rh h10.rv h10.bel⟩
          cases hx with
          | sle n o ln z cap L hL h5 h6 =>
            obtain ⟨M, hM, hr⟩ := rh.blk n _ hG
            rw [hL] at hM; cases hM
            obtain ⟨x, h7, h8, h9⟩ := slice_cells (P := P) rh hG hL hold'
            by_cases hle : ln + m ≤ cap
            · have h10 : (ln + m) * ei.size ≤ cap * ei.size := Nat.mul_le_mul_right _ hle
              rw [Nat.add_mul] at h10
              have hmv := rh.move (c := s.c) hG hL frc hold' hN (by omega)
              have hst : (storeCells ((L.adr o).add (ln * ei.size)) N.toList).run P w = .ok () (w.setCells L.blk (L.base + (o + ln * ei.size)) N.toList) := by
                rw [adr_add]
                have hw := hr.2.2.2
                have := run_storeCells_cells (P := P) L.blk (L.base + (o + ln * ei.size)) N.toList 0 w (fun j hj => by
                    obtain ⟨u, hu⟩ := (hw (o + ln * ei.size + j) (by simp at hj; omega)).2
                    unfold Loc.adr at hu
                    rw [show L.base + (o + ln * ei.size) + 0 + j = L.base + (o + ln * ei.size + j) by omega, hu]; rfl) (fun j hj => by
                    have := (hw (o + ln * ei.size + j) (by simp at hj; omega)).1
                    unfold Loc.adr at this
                    rw [show L.base + (o + ln * ei.size) + 0 + j = L.base + (o + ln * ei.size + j) by omega]; exact this) (scals_one hN hq.2)
                simpa [Loc.adr] using this
              have hrv : RV (upF ρ s.c (some ⟨L.blk, L.base + o, L.K - o, undef, 0⟩)) (.sl s.c .zero (Nat.add ln m) (.el ei.size)) (.slice (some (L.adr o)) (ln + m) cap) := by
                have := RV.sle (ρ := upF ρ s.c (some ⟨L.blk, L.base + o, L.K - o, undef, 0⟩)) s.c 0 (ln + m) ei.size cap _ (upF_same _ _ _) (by show 0 + cap * ei.size = L.K - o; omega) hle
                simpa [Loc.adr] using this
              exact ⟨_, _, _, _, append_in hS hX hni hT.size (hl w) hf0 hle hst, move_aft (L := L) (L' := ⟨L.blk, L.base + o, L.K - o, undef, 0⟩) rh hG rfl (.inr rfl) rfl (fun k hk _ => setCells_other _ _ _ _ _ hk) hL frc hmv hrv (setCells_below _ hr.2.1 _ _ _)⟩
            · exact out L _ _ x.toArray hL rfl (by omega) (by simpa using h7) (by simpa using h8) (fun d => by simpa [Builtin.firstCells] using h9 { w with drawn := d } (fun i => rfl))
          | slz n o z L a hL h5 h6 =>
            obtain rfl : old = [] := sub_zero_nil (by simpa using hold')
            exact out L _ _ #[] hL rfl (by omega) .nil (by simp) (fun d => by simp [Builtin.firstCells, loadCells, loadCellsFrom])
    · cases e
end
end Go.Ab
