/- A part of an evaluator of the program's operations over values that are known whole or in part, and of the proof that what it answers holds of the program's run. No condition. -/
import Derived.Test.YtlegocibpfflnaaGreatDoorS11
import Derived.Laws.BytesString
import Derived.Laws.MakeOwn
import Derived.MapKept
namespace Go.Ab
open Go.RowKit (Below)
section
variable {P : Program} {E : Env} {B : Nat} {ρ : Rho} {G : Hp} {w : World}

/-! Conversions. -/
theorem byteOf_eq {v : AV} {m : Nat} (e : byteOf v = some m) : v = .int .u8 (.ofNat m) ∧ m < 256 := by
  unfold byteOf at e
  split at e
  · obtain ⟨h, e1⟩ := bE_none_eq e
    cases e1
    exact ⟨rfl, ble_true h⟩
  · cases e
theorem strOf_ok : ∀ {l : List AV} {x : List Value} {m : List Nat}, RVs ρ l x → strOf l = some m → x = m.map (fun n => Value.int .u8 (Int.ofNat n)) ∧ ∀ b ∈ m, b < 256
  | _, _, _, .nil, e => by cases e; exact ⟨rfl, by simp⟩
  | _, _, m, .cons (v := v) (l := l) h1 h2, e => by
    obtain ⟨b, hb, e1⟩ := oE_none_eq (show oE (byteOf v) none (fun b => oE (strOf l) none (fun r => some (b :: r))) = some m from e)
    obtain ⟨r, hr, e2⟩ := oE_none_eq e1
    cases e2
    obtain ⟨rfl, hlt⟩ := byteOf_eq hb
    obtain ⟨h3, h4⟩ := strOf_ok h2 hr
    cases h1
    refine ⟨by simp [h3], fun c hc => ?_⟩
    rcases List.mem_cons.1 hc with rfl | hc
    · exact hlt
    · exact h4 c hc
theorem push_bytes : ∀ (m : List Nat) (r : ByteArray), (∀ b ∈ m, b < 256) → bytesOf ((m.map Int.ofNat).foldl (fun r n => r.push (UInt8.ofNat n.toNat)) r) = bytesOf r ++ m
  | [], r, _ => by simp
  | b :: m, r, h => by
    rw [List.map_cons, List.foldl_cons, push_bytes m _ (fun c hc => h c (by simp [hc]))]
    have : bytesOf (r.push (UInt8.ofNat (Int.ofNat b).toNat)) = bytesOf r ++ [b] := by
      have hb : b < 256 := h b (by simp)
      simp [bytesOf, ByteArray.push, Nat.mod_eq_of_lt hb]
    rw [this]; simp
theorem convert_ok (hE : EnvOK P E) {s : St} {a b : Nat} {si di : TI} {x v : AV} {X : Value} {h : Tr AB} {c : Nat} {tl : List Nat} (rh : RH B ρ G w) (hx : RV ρ x X)
    (ha : E.ty.get a = some si) (hb : E.ty.get b = some di) (e : convert E s si.d di.d x = .ok v h c tl) (hp : ∀ n ∈ refsV x, ∀ b, s.h.get n = some b → G n = some b) :
    ∃ u, (Go.convert a b X).run P w = .ok u w ∧ Aft B ρ G w s v h c tl u ρ G w := by
  obtain ⟨da, hda, hra, _, _⟩ := (hE.ty _ _ ha).und
  obtain ⟨db, hdb, hrb, _, _⟩ := (hE.ty _ _ hb).und
  have str : ∀ {S : ByteArray} {v : AV} {h : Tr AB} {c : Nat} {tl : List Nat} {l : List Nat}, bytesOf S = l → pure s (.str l) = .ok v h c tl → Aft B ρ G w s v h c tl (.string S) ρ G w := by
    intro S v h c tl l hS hpv
    rw [pure_eq] at hpv
    cases hpv
    subst hS
    exact Aft.pure rh (.str S)
  generalize hsd : si.d = sd at *
  generalize hdd : di.d = dd at *
  unfold Go.Ab.convert at e
  split at e
  · next k j n =>
    cases hx
    obtain ⟨e1, rfl, rfl, rfl⟩ := pureO_eq e
    rw [mkW_eq] at e1
    cases e1
    obtain rfl : db = .int k := by cases db <;> simp [DR] at hrb ⊢; exact hrb
    refine ⟨_, ?_, Aft.pure rh (.int k (k.wrap n))⟩
    simp only [Go.convert, Sem.run_bind, run_underlying hda, run_underlying hdb, Result.andThen_ok]
    rfl
  · next l =>
    cases hx with
    | str S =>
      obtain rfl : db = .string := by cases db <;> simp [DR] at hrb ⊢
      refine ⟨.string S, ?_, str rfl e⟩
      simp only [Go.convert, Sem.run_bind, run_underlying hda, run_underlying hdb, Result.andThen_ok]
      cases da <;> rfl
  · obtain ⟨h1, e1⟩ := bE_no_eq e
    obtain rfl : db = .string := by cases db <;> simp [DR] at hrb ⊢
    cases hx
    unfold bytesT at h1
    split at h1
    · next el =>
      obtain rfl : da = .slice el := by cases da <;> simp [DR] at hra ⊢; exact hra
      cases hel : E.ty.get el with
      | none => rw [hel] at h1; cases h1
      | some ei =>
        rw [hel, oE_some] at h1
        obtain ⟨de, hde, hre, _, _⟩ := (hE.ty _ _ hel).und
        have : de = .int .u8 := by
          unfold isU8 at h1
          split at h1
          · next hd => rw [hd] at hre; cases de <;> simp [DR] at hre ⊢; exact hre
          · cases h1
        subst this
        refine ⟨.string .empty, ?_, str rfl e1⟩
        simp only [Go.convert, Sem.run_bind, run_underlying hda, run_underlying hdb, run_underlying hde, Result.andThen_ok]
        rfl
    · cases h1
  · next n o ln cp =>
    obtain ⟨h1, e1⟩ := bE_no_eq e
    obtain rfl : db = .string := by cases db <;> simp [DR] at hrb ⊢
    obtain ⟨cs, hcs, e2⟩ := oE_no_eq e1
    obtain ⟨m, hm, e3⟩ := oE_no_eq e2
    unfold bytesT at h1
    split at h1
    · next el =>
      obtain rfl : da = .slice el := by cases da <;> simp [DR] at hra ⊢; exact hra
      cases hel : E.ty.get el with
      | none => rw [hel] at h1; cases h1
      | some ei =>
        rw [hel, oE_some] at h1
        obtain ⟨de, hde, hre, _, _⟩ := (hE.ty _ _ hel).und
        have : de = .int .u8 := by
          unfold isU8 at h1
          split at h1
          · next hd => rw [hd] at hre; cases de <;> simp [DR] at hre ⊢; exact hre
          · cases h1
        subst this
        obtain ⟨N, hN1, _, hN2, _⟩ := rowOf_ok (P := P) (s := s) rh hx hcs (m := ln) rfl hp
        obtain ⟨hNm, hlt⟩ := strOf_ok hN1 hm
        have hload := hN2 w.drawn
        have hcap : ∃ (ad : Addr) (cap : Nat), X = .slice (some ad) ln cap := by
          cases hx with
          | slf n o l c L hL => exact ⟨_, _, rfl⟩
          | sle n o l z c L hL _ _ => exact ⟨_, _, rfl⟩
          | slz n o z L a hL _ _ => exact ⟨_, _, rfl⟩
          | slx n o a _ => exact ⟨_, _, rfl⟩
        obtain ⟨ad, cap, rfl⟩ := hcap
        have hl : (loadCells ad ln).run P w = .ok ((m.map Int.ofNat).map (Value.int .u8)).toArray w := by
          have h5 : (Builtin.firstCells 1 ln (.slice (some ad) ln cap)).run P w = .ok N w := hload
          simp only [Builtin.firstCells, Nat.mul_one] at h5
          rw [h5]
          congr 1
          apply Array.toList_inj.1
          rw [hNm]
          simp [Function.comp_def]
        refine ⟨.string ((m.map Int.ofNat).foldl (fun r n => r.push (UInt8.ofNat n.toNat)) ByteArray.empty), ?_, str (by rw [push_bytes m _ hlt]; rfl) e3⟩
        · simp only [Go.convert, Sem.run_bind, run_underlying hda, run_underlying hdb, run_underlying hde, Result.andThen_ok]
          exact run_bytesToString w ad ln cap _ hl
    · cases h1
  · cases e

/-! Rows made. -/
theorem mkSl_ok (hE : EnvOK P E) {s : St} {t : Nat} {ei : TI} {lv cv v : AV} {ln cn : Nat} {X Y : Value} {h : Tr AB} {c : Nat} {tl : List Nat} (rh : RH B ρ G w) (hB : B ≤ w.heap.size)
    (hx : RV ρ lv X) (hy : RV ρ cv Y) (ht : elemT E t = some ei) (hl : inN lv = some ln) (hc : inN cv = some cn) (e : mkSl s ei ln cn = .ok v h c tl) (fr : ∀ n, s.c ≤ n → n < c → ρ n = none) :
    ∃ u w' ρ' G', (Instr.makeSlice t X Y).run P w = .ok u w' ∧ Aft B ρ G w s v h c tl u ρ' G' w' := by
  obtain ⟨h1, e1⟩ := bE_no_eq e
  rw [Bool.and_eq_true] at h1
  have h2 := ble_true h1.1
  obtain ⟨h3, h4⟩ := small_eq h1.2
  obtain ⟨el, hel, hT⟩ := elemT_ok hE ht
  obtain ⟨f, z, d, hi1, hi2, hi3, hi4, hz, hag, hzl, hi5, hi6, hi7⟩ := hT.inf
  obtain ⟨k1, rfl⟩ := inN_eq hl
  obtain ⟨k2, rfl⟩ := inN_eq hc
  cases hx
  cases hy
  have hb : (f.bytes : Int) * (cn : Int) ≤ 281474976710656 := by
    have : f.bytes * cn ≤ 1048576 * 1048576 := by rw [hi3]; exact Nat.mul_le_mul h4 h3
    have h5 : f.bytes * cn ≤ 281474976710656 := by omega
    rw [← Int.natCast_mul]
    omega
  have hcz : z.cells.size = ei.size := by
    have := (hz ρ).length
    simp at this
    omega
  have hrun := run_make (P := P) w t el f z hel hi1 hi4 k1 k2 (ln : Int) (cn : Int) (Int.natCast_nonneg _) (by exact_mod_cast h2) hb (by
    omega)
  simp only [Int.toNat_natCast] at hrun
  have hrep := reps_rv (hz ρ) cn
  rw [show mkSl s ei ln cn = _ from rfl] at e
  obtain ⟨ρ', G', h5, h6⟩ := new_ok (P := P) (t := el) (u := .slice (some ⟨w.heap.size, 0, none⟩) ln cn) (C := madeCells z.cells (cn * f.size)) rh hB (by
    unfold madeCells; rw [hi2, ← hcz]; exact hrep) e1 fr (fun ρ' hρ _ => by
    have := RV.slf (ρ := ρ') s.c 0 ln cn _ hρ
    simpa [Loc.adr] using this)
  exact ⟨_, _, ρ', G', hrun, h6⟩
end
end Go.Ab
