/- A part of an evaluator of the program's operations over values that are known whole or in part, and of the proof that what it answers holds of the program's run. No condition. -/
import Derived.Test.YtlegocibpfflnaaGreatDoorS6
namespace Go.Ab
open Go.RowKit (Below)
section
variable {P : Program} {E : Env} {B : Nat} {ρ : Rho} {G : Hp} {w : World}

/-! Addresses, parts. -/
theorem fAddr_ok (hE : EnvOK P E) {t f off : Nat} {fi : TI} {x v : AV} {y : Value} (hx : RV ρ x y) (hf : fieldOf E t f = some (off, fi)) (e : fAddr off fi.size x = some v) :
    ∃ u, (Instr.fieldAt t y f).run P w = .ok u w ∧ RV ρ v u := by
  obtain ⟨⟨n, o⟩, hp, e1⟩ := oE_none_eq e
  obtain rfl := asPtr_eq hp
  rw [pE_mk] at e1
  obtain ⟨hz, e2⟩ := bE_none_eq' e1
  rw [fN_eq] at e2
  cases e2
  obtain ⟨gs, g, h1, h2, h3, h4⟩ := fieldOf_ok hE hf
  cases hx with
  | ptr n o L hL =>
    refine ⟨.pointer (some (L.adr (o + off))), ?_, .ptr n (Nat.add o off) L hL⟩
    have := h4.size w
    simp only [Instr.fieldAt, Sem.run_bind, run_underlying h1, Result.andThen_ok, h2, Instr.sureAddr, Sem.run_pure, fieldPlace, this]
    rw [if_neg (beq_false hz)]
    simp [adr_add, h3]
theorem part_ok {ti : TI} {t : Nat} (ht : TyOK P t ti) {c : List AV} {C : Array Value} {o : Nat} {v : AV} (hc : RVs ρ c C.toList) (e : partC ti c o = some v) :
    ∃ u, (part t C o).run P w = .ok u w ∧ RV ρ v u := by
  unfold partC at e
  simp only [part, Sem.run_bind, ht.isAgg, Result.andThen_ok]
  cases hag : ti.agg with
  | true =>
    rw [hag, bE_true] at e
    obtain ⟨l, hl, e1⟩ := oE_none_eq e
    cases e1
    obtain ⟨rfl, hle⟩ := sub_eq hl
    refine ⟨.agg (C.extract o (o + ti.size)), by simp [ht.size], .agg _ _ ?_⟩
    have := (hc.drop o).take ti.size
    have e2 : (C.extract o (o + ti.size)).toList = (C.toList.drop o).take ti.size := by
      simp
    rw [e2]
    exact this
  | false =>
    rw [hag, bE_false, nth_eq] at e
    obtain ⟨u, h1, h2⟩ := hc.get o e
    simp at h1
    exact ⟨u, by simp [h1], h2⟩
theorem fPart_ok (hE : EnvOK P E) {t f off : Nat} {fi : TI} {x v : AV} {y : Value} (hx : RV ρ x y) (hf : fieldOf E t f = some (off, fi)) (e : fPart off fi x = some v) :
    ∃ u, (Instr.field t y f).run P w = .ok u w ∧ RV ρ v u := by
  unfold fPart at e
  split at e
  · cases hx with
    | agg l C hc =>
      obtain ⟨gs, g, h1, h2, h3, h4⟩ := fieldOf_ok hE hf
      obtain ⟨u, h5, h6⟩ := part_ok (w := w) h4 hc e
      refine ⟨u, ?_, h6⟩
      simp only [Instr.field, Sem.run_bind, run_underlying h1, Result.andThen_ok, h2, Go.asAgg, Sem.run_pure, h3, h5]
  · cases e
theorem inN_eq {v : AV} {i : Nat} (e : inN v = some i) : ∃ k, v = .int k (.ofNat i) := by
  unfold inN at e
  split at e <;> cases e
  exact ⟨_, rfl⟩
theorem sizeT_ok (hE : EnvOK P E) {t z : Nat} (e : sizeT E t = some z) : ∃ ti, E.ty.get t = some ti ∧ ti.size = z ∧ TyOK P t ti := by
  obtain ⟨ti, ht, e1⟩ := oE_none_eq e
  cases e1
  exact ⟨ti, ht, rfl, hE.ty _ _ ht⟩
theorem ixS_eq (hE : EnvOK P E) {ety n o l i : Nat} {v : AV} (e : ixS E ety n o l i = some v) : ∃ z, v = .ptr n (o + i * z) ∧ i < l ∧ ∀ w, (sizeOf ety).run P w = .ok z w := by
  obtain ⟨h1, e1⟩ := bE_none_eq e
  obtain ⟨z, hz, e2⟩ := oE_none_eq e1
  cases e2
  obtain ⟨ti, _, rfl, h2⟩ := sizeT_ok hE hz
  exact ⟨_, rfl, ble_true h1, h2.size⟩
theorem indexAddr_ok (hE : EnvOK P E) {t : Nat} {x ix v : AV} {y j : Value} (hx : RV ρ x y) (hj : RV ρ ix j) (e : indexAddr E t x ix = some v) :
    ∃ u, (Instr.indexAt t y j).run P w = .ok u w ∧ RV ρ v u := by
  obtain ⟨ti, ht, e1⟩ := oE_none_eq e
  obtain ⟨i, hi, e2⟩ := oE_none_eq e1
  obtain ⟨k, rfl⟩ := inN_eq hi
  cases hj
  obtain ⟨d, hd1, hd2, _, hd3⟩ := (hE.ty _ _ ht).und
  unfold ixA at e2
  split at e2
  · next ety n o l cap hd =>
    rw [hd] at hd2
    obtain ⟨f, rfl⟩ : ∃ f, d = .slice f := by cases d <;> simp [DR] at hd2 ⊢
    simp only [DR] at hd2
    subst hd2
    obtain ⟨z, rfl, hlt, hz⟩ := ixS_eq hE e2
    have hb : (0 : Int) ≤ (Int.ofNat i) ∧ (Int.ofNat i) < (l : Int) := ⟨Int.natCast_nonneg i, by simpa using hlt⟩
    cases hx with
    | slf n o l c L hL =>
      refine ⟨.pointer (some (L.adr (o + i * z))), ?_, .ptr n _ L hL⟩
      simp only [Instr.indexAt, asIntOf, Sem.run_bind, Sem.run_pure, Result.andThen_ok, hd3]
      rw [if_pos hb]
      simp [hz, adr_add]
    | sle n o l z' cap L hL h1 h2 =>
      refine ⟨.pointer (some (L.adr (o + i * z))), ?_, .ptr n _ L hL⟩
      simp only [Instr.indexAt, asIntOf, Sem.run_bind, Sem.run_pure, Result.andThen_ok, hd3]
      rw [if_pos hb]
      simp [hz, adr_add]
    | slz n o z' L a hL h1 h2 => omega
    | slx n o a h1 => omega
  · next l ety n o hd =>
    rw [hd] at hd2
    obtain ⟨m, f, rfl⟩ : ∃ m f, d = .array m f := by cases d <;> simp [DR] at hd2 ⊢
    simp only [DR] at hd2
    obtain ⟨rfl, rfl⟩ := hd2
    obtain ⟨z, rfl, hlt, hz⟩ := ixS_eq hE e2
    have hb : (0 : Int) ≤ (Int.ofNat i) ∧ (Int.ofNat i) < (m : Int) := ⟨Int.natCast_nonneg i, by simpa using hlt⟩
    cases hx with
    | ptr n o L hL =>
      refine ⟨.pointer (some (L.adr (o + i * z))), ?_, .ptr n _ L hL⟩
      simp only [Instr.indexAt, asIntOf, Sem.run_bind, Sem.run_pure, Result.andThen_ok, hd3, Instr.sureAddr]
      rw [if_pos hb]
      simp [hz, adr_add]
  · cases e2
theorem bytes_get {s : ByteArray} {i b : Nat} (h : (bytesOf s)[i]? = some b) : ∃ (hi : i < s.size), s[i].toNat = b := by
  unfold bytesOf at h
  simp at h
  obtain ⟨x, hx, rfl⟩ := h
  obtain ⟨hi, rfl⟩ := Array.getElem?_eq_some_iff.1 hx
  exact ⟨hi, rfl⟩
theorem bytesOf_length (s : ByteArray) : (bytesOf s).length = s.size := by simp [bytesOf]
theorem indexV_ok (hE : EnvOK P E) {t i : Nat} {k : IntKind} {x v : AV} {y : Value} (hx : RV ρ x y) (e : indexV E t i x = some v) :
    ∃ u, (Instr.index t y (.int k (.ofNat i))).run P w = .ok u w ∧ RV ρ v u := by
  obtain ⟨ti, ht, e0⟩ := oE_none_eq e
  obtain ⟨d, hd1, hd2, _, hd3⟩ := (hE.ty _ _ ht).und
  unfold indexD at e0
  split at e0
  · next l hd =>
    obtain ⟨b, hb, e1⟩ := oE_none_eq e0
    cases e1
    rw [nth_eq] at hb
    rw [hd] at hd2
    obtain rfl : d = .string := by cases d <;> simp [DR] at hd2 ⊢
    cases hx with
    | str s =>
      obtain ⟨hi, h1⟩ := bytes_get hb
      refine ⟨.int .u8 b, ?_, .int .u8 (.ofNat b)⟩
      have h0 : (0 : Int) ≤ Int.ofNat i := Int.natCast_nonneg i
      simp only [Instr.index, asIntOf, Sem.run_bind, Sem.run_pure, Result.andThen_ok, hd3]
      rw [if_pos h0]
      have : s[(Int.ofNat i).toNat]? = some s[i] := by simp [hi]
      rw [this]
      simp [h1]
  · next l ety c hd =>
    obtain ⟨hlt, e2⟩ := bE_none_eq e0
    obtain ⟨ei, hei, e3⟩ := oE_none_eq e2
    rw [hd] at hd2
    obtain ⟨m, f, rfl⟩ : ∃ m f, d = .array m f := by cases d <;> simp [DR] at hd2 ⊢
    simp only [DR] at hd2
    obtain ⟨rfl, rfl⟩ := hd2
    cases hx with
    | agg _ C hc =>
      have hT := hE.ty _ _ hei
      obtain ⟨u, h1, h2⟩ := part_ok (w := w) hT hc e3
      refine ⟨u, ?_, h2⟩
      have hb : (0 : Int) ≤ (Int.ofNat i) ∧ (Int.ofNat i) < (m : Int) := ⟨Int.natCast_nonneg i, by have := ble_true hlt; simp; omega⟩
      simp only [Instr.index, asIntOf, Sem.run_bind, Sem.run_pure, Result.andThen_ok, hd3]
      rw [if_pos hb]
      simp only [Sem.run_bind, hT.size, Result.andThen_ok]
      exact h1
  · cases e0
end
end Go.Ab
