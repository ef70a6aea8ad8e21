/- A part of an evaluator of the program's operations over values that are known whole or in part, and of the proof that what it answers holds of the program's run. No condition. -/
import Derived.Test.YtlegocibpfflnaaGreatDoorS9
namespace Go.Ab
open Go.RowKit (Below)
section
variable {P : Program} {E : Env} {B : Nat} {ρ : Rho} {G : Hp} {w : World}

/-! Slicing. -/
theorem oN_ok {t : Tr AV} {a : Act} {d n : Nat} {x : Option Operand} (tm : TO ρ t a x.toList) (e : oN t d x = some n) :
    (x = none ∧ n = d) ∨ ∃ o k, x = some o ∧ a.eval o = .int k (.ofNat n) := by
  cases x with
  | none => cases e; exact .inl ⟨rfl, rfl⟩
  | some o =>
    obtain ⟨v, hv, e1⟩ := oE_none_eq (show oE (ev t o) none inN = some n from e)
    obtain ⟨k, rfl⟩ := inN_eq e1
    have := tm o (by simp) _ hv
    cases h : a.eval o <;> rw [h] at this <;> cases this
    exact .inr ⟨o, k, rfl, h⟩
theorem bound_ok {k : IntKind} {n y : Nat} (h : n ≤ y) (code : BoundsCode) : (Instr.sliceBound (.int k (.ofNat n)) y code).run P w = .ok n w := by
  simp only [Instr.sliceBound, asIntOf, Sem.run_bind, Sem.run_pure, Result.andThen_ok]
  rw [if_pos ⟨Int.natCast_nonneg n, by simpa using h⟩]
  rfl
theorem bounds_ok {t : Tr AV} {a : Act} {isS : Bool} {len cap l h m : Nat} {lo hi mx : Option Operand} (tm : TO ρ t a (lo.toList ++ (hi.toList ++ mx.toList))) (hlo : oN t 0 lo = some l) (hhi : oN t len hi = some h) (hmx : oN t cap mx = some m)
    (hok : okMx hi mx = true) (h1 : l ≤ h) (h2 : h ≤ m) (h3 : m ≤ cap) :
    (Instr.sliceBounds isS len cap (lo.map a.eval) (hi.map a.eval) (mx.map a.eval)).run P w = .ok (l, h, m) w := by
  rcases oN_ok (tm.sub fun x hx => by simp [hx]) hlo with ⟨rfl, rfl⟩ | ⟨o1, k1, rfl, e1⟩ <;> rcases oN_ok (tm.sub fun x hx => by simp [hx]) hmx with ⟨rfl, rfl⟩ | ⟨o3, k3, rfl, e3⟩ <;>
    rcases oN_ok (tm.sub fun x hx => by simp [hx]) hhi with ⟨rfl, rfl⟩ | ⟨o2, k2, rfl, e2⟩ <;> first
    | (cases hok; done)
    | (simp only [Instr.sliceBounds, Option.map_none, Option.map_some, Sem.run_bind, Sem.run_pure, Result.andThen_ok, e1, e2, e3, bound_ok h1, bound_ok h2, bound_ok h3]; done)
    | (simp only [Instr.sliceBounds, Option.map_none, Option.map_some, Sem.run_bind, Sem.run_pure, Result.andThen_ok, e1, e2, bound_ok h1, bound_ok h2]; done)
    | (simp only [Instr.sliceBounds, Option.map_none, Option.map_some, Sem.run_bind, Sem.run_pure, Result.andThen_ok, e1, bound_ok h1]; done)
    | (simp only [Instr.sliceBounds, Option.map_none, Option.map_some, Sem.run_bind, Sem.run_pure, Result.andThen_ok, e2, e3, bound_ok h2, bound_ok h3]; done)
    | (simp only [Instr.sliceBounds, Option.map_none, Option.map_some, Sem.run_bind, Sem.run_pure, Result.andThen_ok, e2, bound_ok h2]; done)
    | (simp only [Instr.sliceBounds, Option.map_none, Option.map_some, Sem.run_bind, Sem.run_pure, Result.andThen_ok]; done)

theorem slFix_eq {n o z l h m c : Nat} {v : AV} (e : slFix n o z l h m c = some v) : v = .sl n (if m = l then o else o + l * z) (h - l) (.fix (m - l)) ∧ l ≤ h ∧ h ≤ m ∧ m ≤ c := by
  unfold slFix at e
  rw [fN_eq, fN_eq, fN_eq] at e
  obtain ⟨h1, e1⟩ := bE_none_eq e
  simp only [Bool.and_eq_true] at h1
  obtain ⟨⟨h2, h3⟩, h4⟩ := h1
  cases e1
  refine ⟨?_, ble_true h2, ble_true h3, ble_true h4⟩
  cases hb : Nat.beq m l with
  | true => rw [bE_true, if_pos (beq_true hb)]; rfl
  | false => rw [bE_false, if_neg (beq_false hb)]; rfl
theorem slEl_eq {n o z l h ln : Nat} {cap : Cap} {v : AV} (e : slEl n o z l h ln cap = some v) : v = .sl n (o + l * z) (h - l) cap ∧ l ≤ h ∧ h ≤ ln := by
  unfold slEl at e
  rw [fN_eq, fN_eq] at e
  obtain ⟨h1, e1⟩ := bE_none_eq e
  simp only [Bool.and_eq_true] at h1
  cases e1
  exact ⟨rfl, ble_true h1.1, ble_true h1.2⟩
theorem ite_adr (L : Loc) (m l o k : Nat) : (if m = l then L.adr o else (L.adr o).add k) = L.adr (if m = l then o else o + k) := by
  split
  · rfl
  · exact adr_add _ _ _
theorem slice_ok (hE : EnvOK P E) {tm : Tr AV} {a : Act} {t : Nat} {x v : AV} {X : Value} {lo hi mx : Option Operand} (hT : TO ρ tm a (lo.toList ++ (hi.toList ++ mx.toList))) (hx : RV ρ x X) (e : slice E tm t x lo hi mx = some v) :
    ∃ u, (Instr.sliceAt t X (lo.map a.eval) (hi.map a.eval) (mx.map a.eval)).run P w = .ok u w ∧ RV ρ v u := by
  unfold slice at e
  obtain ⟨hok, e0⟩ := bE_none_eq e
  obtain ⟨l, hlo, e1⟩ := oE_none_eq e0
  obtain ⟨ti, ht, e2⟩ := oE_none_eq e1
  obtain ⟨d, hd1, hd2, _, hd3⟩ := (hE.ty _ _ ht).und
  unfold sliceV at e2
  split at e2
  · -- a string
    next s hd =>
    rw [hd] at hd2
    obtain rfl := DR.str hd2
    cases mx with
    | some m => cases e2
    | none =>
      obtain ⟨h, hhi, e3⟩ := oE_none_eq (show oE (oN tm (len s) hi) none (slStr s l) = some v from e2)
      unfold slStr at e3
      obtain ⟨h1, e4⟩ := bE_none_eq e3
      obtain ⟨h2, e5⟩ := bE_none_eq e4
      obtain ⟨r, hr, e6⟩ := oE_none_eq e5
      cases e6
      cases hx with
      | str S =>
        rw [len_eq, bytesOf_length] at hhi h2
        have h1' := ble_true h1
        have h2' := ble_true h2
        have := bounds_ok (P := P) (w := w) hT (isS := false) (len := S.size) (cap := S.size) hlo hhi (mx := none) rfl hok h1' h2' (Nat.le_refl _)
        refine ⟨.string (S.extract l h), ?_, ?_⟩
        · simp only [Instr.sliceAt, Sem.run_bind, hd3, Result.andThen_ok, Instr.slice, Option.map_none]
          rw [if_neg (by simp)]
          simp only [Option.map_none] at this
          simp only [Sem.run_bind, Sem.run_pure, this, Result.andThen_ok]
        · have h3 := RV.str (ρ := ρ) (S.extract l h)
          have h4 : bytesOf (S.extract l h) = r := by
            obtain ⟨rfl, _⟩ := sub_eq hr
            simp [bytesOf, ByteArray.data_extract, List.map_take, List.map_drop]
          rwa [h4] at h3
  · -- nil
    next ety hd =>
    rw [hd] at hd2
    obtain rfl := DR.sl hd2
    obtain ⟨z0, hz0, e20⟩ := oE_none_eq e2
    obtain ⟨_, _, hs1, hs2⟩ := sizeT_ok hE hz0
    obtain ⟨h, hhi, e3⟩ := oE_none_eq (show oE (oN tm .zero hi) none (fun h => oE (oN tm .zero mx) none (fun m => bE (Nat.beq l .zero && Nat.beq h .zero && Nat.beq m .zero) (some .nils) none)) = some v from e20)
    obtain ⟨m, hmx, e4⟩ := oE_none_eq e3
    obtain ⟨h1, e5⟩ := bE_none_eq e4
    cases e5
    simp only [Bool.and_eq_true] at h1
    obtain rfl := beq_true h1.1.1
    obtain rfl := beq_true h1.1.2
    obtain rfl := beq_true h1.2
    cases hx
    have := bounds_ok (P := P) (w := w) hT (isS := true) (len := 0) (cap := 0) hlo hhi hmx hok (Nat.le_refl _) (Nat.le_refl _) (Nat.le_refl _)
    exact ⟨.slice none 0 0, by simp [Instr.sliceAt, hd3, Instr.slice, this, hs2.size], .nils⟩
  · -- a slice
    next ety n o ln cap hd =>
    rw [hd] at hd2
    obtain rfl := DR.sl hd2
    obtain ⟨z, hz, e3⟩ := oE_none_eq e2
    obtain ⟨_, _, hs1, hs2⟩ := sizeT_ok hE hz
    obtain ⟨h, hhi, e4⟩ := oE_none_eq e3
    have hsz := hs2.size w
    rw [hs1] at hsz
    cases cap with
    | fix c =>
      obtain ⟨m, hmx, e5⟩ := oE_none_eq (show oE (oN tm c mx) none (fun m => slFix n o z l h m c) = some v from e4)
      obtain ⟨rfl, h1, h2, h3⟩ := slFix_eq e5
      have hb := bounds_ok (P := P) (w := w) hT (isS := true) (len := ln) (cap := c) hlo hhi hmx hok h1 h2 h3
      cases hx with
      | slf n o ln c L hL =>
        refine ⟨.slice (some (L.adr (if m = l then o else o + l * z))) (h - l) (m - l), ?_, .slf _ _ _ _ L hL⟩
        simp only [Instr.sliceAt, Sem.run_bind, hd3, Result.andThen_ok, Instr.slice, hb, hsz, Sem.run_pure, Option.map_some]
        rw [← ite_adr]
        split <;> rfl
      | slx n o a' ha =>
        obtain rfl : m = 0 := by omega
        obtain rfl : h = 0 := by omega
        obtain rfl : l = 0 := by omega
        refine ⟨.slice (some a') 0 0, ?_, .slx _ _ _ ha⟩
        simp only [Instr.sliceAt, Sem.run_bind, hd3, Result.andThen_ok, Instr.slice, hb, hsz, Sem.run_pure, if_pos]
    | el sz =>
      obtain ⟨hq, e5⟩ := bE_none_eq (show bE (Nat.beq sz z) _ none = some v from e4)
      obtain rfl := beq_true hq
      cases mx with
      | none =>
        obtain ⟨rfl, h1, h2⟩ := slEl_eq (show slEl n o sz l h ln (.el sz) = some v from e5)
        cases hx with
        | sle n o ln z cap L hL h3 h4 =>
          have hb := bounds_ok (P := P) (w := w) hT (isS := true) (len := ln) (cap := cap) hlo hhi (mx := none) rfl hok h1 (by omega) (Nat.le_refl _)
          refine ⟨.slice (some (if cap = l then L.adr o else (L.adr o).add (l * sz))) (h - l) (cap - l), ?_, ?_⟩
          · simp only [Option.map_none] at hb
            simp only [Instr.sliceAt, Sem.run_bind, hd3, Result.andThen_ok, Instr.slice, Option.map_none, hb, hsz, Sem.run_pure, Option.map_some]
            split <;> rfl
          · by_cases hc : cap = l
            · subst hc
              rw [if_pos rfl]
              obtain rfl : h = cap := by omega
              simp only [Nat.sub_self]
              exact .slz n _ sz L _ hL h3 rfl
            · rw [if_neg hc, adr_add]
              have hle : l ≤ cap := by omega
              refine .sle n _ _ sz _ L hL ?_ (by omega)
              rw [Nat.add_assoc, ← Nat.add_mul, Nat.add_sub_cancel' hle]; exact h3
        | slz n o z L a' hL h3 ha =>
          obtain rfl : h = 0 := by omega
          obtain rfl : l = 0 := by omega
          have hb := bounds_ok (P := P) (w := w) hT (isS := true) (len := 0) (cap := 0) hlo hhi (mx := none) rfl hok h1 (by omega) (Nat.le_refl _)
          refine ⟨.slice (some a') 0 0, ?_, ?_⟩
          · simp only [Option.map_none] at hb
            simp only [Instr.sliceAt, Sem.run_bind, hd3, Result.andThen_ok, Instr.slice, Option.map_none, hb, hsz, Sem.run_pure, if_pos]
          · exact .slz n _ sz L a' hL (by simpa using h3) ha
      | some mo =>
        obtain ⟨mv, hmv, e6⟩ := oE_none_eq (show oE (ev tm mo) none _ = some v from e5)
        obtain ⟨m, hm, e7⟩ := oE_none_eq e6
        obtain ⟨rfl, h1, h2, h3⟩ := slFix_eq e7
        have hmx : ∀ c, oN tm c (some mo) = some m := fun c => by
          show oE (ev tm mo) none inN = some m
          rw [hmv]; exact hm
        cases hx with
        | sle n o ln z cap L hL h4 h5 =>
          have hb := bounds_ok (P := P) (w := w) hT (isS := true) (len := ln) (cap := cap) hlo hhi (hmx cap) hok h1 h2 (by omega)
          simp only [Option.map_some] at hb
          refine ⟨.slice (some (L.adr (if m = l then o else o + l * sz))) (h - l) (m - l), ?_, .slf _ _ _ _ L hL⟩
          simp only [Instr.sliceAt, Sem.run_bind, hd3, Result.andThen_ok, Instr.slice, hb, hsz, Sem.run_pure, Option.map_some]
          rw [← ite_adr]
          split <;> rfl
        | slz n o z L a' hL h4 ha =>
          obtain rfl : m = 0 := by omega
          obtain rfl : h = 0 := by omega
          obtain rfl : l = 0 := by omega
          have hb := bounds_ok (P := P) (w := w) hT (isS := true) (len := 0) (cap := 0) hlo hhi (hmx 0) hok h1 h2 (by omega)
          simp only [Option.map_some] at hb
          refine ⟨.slice (some a') 0 0, ?_, .slx _ _ _ ha⟩
          simp only [Instr.sliceAt, Sem.run_bind, hd3, Result.andThen_ok, Instr.slice, Option.map_some, hb, hsz, Sem.run_pure, if_pos]
  · -- an array behind a pointer
    next k ety n o hd =>
    rw [hd] at hd2
    obtain rfl := DR.arr hd2
    obtain ⟨z, hz, e3⟩ := oE_none_eq e2
    obtain ⟨_, _, hs1, hs2⟩ := sizeT_ok hE hz
    obtain ⟨h, hhi, e4⟩ := oE_none_eq e3
    have hsz := hs2.size w
    rw [hs1] at hsz
    cases mx with
    | some m => cases e4
    | none =>
      obtain ⟨rfl, h1, h2, h3⟩ := slFix_eq (show slFix n o z l h k k = some v from e4)
      have hb := bounds_ok (P := P) (w := w) hT (isS := false) (len := k) (cap := k) hlo hhi (mx := none) rfl hok h1 h2 h3
      cases hx with
      | ptr n o L hL =>
        refine ⟨.slice (some (L.adr (if k = l then o else o + l * z))) (h - l) (k - l), ?_, .slf _ _ _ _ L hL⟩
        simp only [Instr.sliceAt, Sem.run_bind, hd3, Result.andThen_ok, Instr.sureAddr, Sem.run_pure, hb, hsz]
        rw [← ite_adr]
  · cases e2
end
end Go.Ab
