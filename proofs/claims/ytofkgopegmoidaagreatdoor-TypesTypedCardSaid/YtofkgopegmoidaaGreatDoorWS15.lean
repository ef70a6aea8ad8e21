/- A part of an evaluator of the program's operations over values that are known whole or in part, and of the proof that what it answers holds of the program's run. No condition. -/
import Derived.Test.YtofkgopegmoidaaGreatDoorWS11
import Derived.Laws.BytesString
import Derived.Laws.MakeOwn
import Derived.MapKept
namespace Go.Ab
open Go.RowKit (Below)
section
variable {P : Program} {E : Env} {B : Nat} {ρ : Rho} {G : Hp} {w : World}

/-! Conversions. -/
theorem byteOf_eq {v : AV} {m : Nat} (e : byteOf v = some m) : v = .int .u8 (.ofNat m) ∧ m < 256 := by
  unfold byteOf at e
  split at e
  · obtain ⟨h, e1⟩ := bE_none_eq e
    cases e1
    exact ⟨rfl, ble_true h⟩
  · cases e
theorem strOf_ok : ∀ {l : List AV} {x : List Value} {m : List Nat}, RVs ρ l x → strOf l = some m → x = m.map (fun n => Value.int .u8 (Int.ofNat n)) ∧ ∀ b ∈ m, b < 256
  | _, _, _, .nil, e => by cases e; exact ⟨rfl, by simp⟩
  | _, _, m, .cons (v := v) (l := l) h1 h2, e => by
    obtain ⟨b, hb, e1⟩ := oE_none_eq (show oE (byteOf v) none (fun b => oE (strOf l) none (fun r => some (b :: r))) = some m from e)
    obtain ⟨r, hr, e2⟩ := oE_none_eq e1
    cases e2
    obtain ⟨rfl, hlt⟩ := byteOf_eq hb
    obtain ⟨h3, h4⟩ := strOf_ok h2 hr
    cases h1
    refine ⟨by simp [h3], fun c hc => ?_⟩
    rcases List.mem_cons.1 hc with rfl | hc
    · exact hlt
    · exact h4 c hc
theorem push_bytes : ∀ (m : List Nat) (r : ByteArray), (∀ b ∈ m, b < 256) → bytesOf ((m.map Int.ofNat).foldl (fun r n => r.push (UInt8.ofNat n.toNat)) r) = bytesOf r ++ m
  | [], r, _ => by simp
  | b :: m, r, h => by
    rw [List.map_cons, List.foldl_cons, push_bytes m _ (fun c hc => h c (by simp [hc]))]
    have : bytesOf (r.push (UInt8.ofNat (Int.ofNat b).toNat)) = bytesOf r ++ [b] := by
      have hb : b < 256 := h b (by simp)
      simp [bytesOf, ByteArray.push, Nat.mod_eq_of_lt hb]
    rw [this]; simp
theorem convert_ok (hE : EnvOK P E) {s : St} {a b : Nat} {si di : TI} {x v : AV} {X : Value} {h : Tr AB} {c : Nat} {tl : List Nat} (rh : RH B ρ G w) (hx : RV ρ x X)
    (ha : E.ty.get a = some si) (hb : E.ty.get b = some di) (e : convert E s si.d di.d x = .ok v h c tl) (hp : ∀ n ∈ refsV x, ∀ b, s.h.get n = some b → G n = some b) :
    ∃ u, (Go.convert a b X).run P w = .ok u w ∧ AftO B ρ G w s v h c tl u ρ G w := by
  obtain ⟨da, hda, hra, _, _⟩ := (hE.ty _ _ ha).und
  obtain ⟨db, hdb, hrb, _, _⟩ := (hE.ty _ _ hb).und
  have str : ∀ {S : ByteArray} {v : AV} {h : Tr AB} {c : Nat} {tl : List Nat} {l : List Nat}, bytesOf S = l → pure s (.str l) = .ok v h c tl → AftO B ρ G w s v h c tl (.string S) ρ G w := by
    intro S v h c tl l hS hpv
    rw [pure_eq] at hpv
    cases hpv
    subst hS
    exact AftO.pure rh (.str S)
  generalize hsd : si.d = sd at *
  generalize hdd : di.d = dd at *
  unfold Go.Ab.convert at e
  split at e
  · next k j n =>
    cases hx
    obtain ⟨e1, rfl, rfl, rfl⟩ := pureO_eq e
    rw [mkW_eq] at e1
    cases e1
    obtain rfl : db = .int k := by cases db <;> simp [DR] at hrb ⊢; exact hrb
    refine ⟨_, ?_, AftO.pure rh (.int k (k.wrap n))⟩
    simp only [Go.convert, Sem.run_bind, run_underlying hda, run_underlying hdb, Result.andThen_ok]
    rfl
  · next l =>
    cases hx with
    | str S =>
      obtain rfl : db = .string := by cases db <;> simp [DR] at hrb ⊢
      refine ⟨.string S, ?_, str rfl e⟩
      simp only [Go.convert, Sem.run_bind, run_underlying hda, run_underlying hdb, Result.andThen_ok]
      cases da <;> rfl
  · obtain ⟨h1, e1⟩ := bE_no_eq e
    obtain rfl : db = .string := by cases db <;> simp [DR] at hrb ⊢
    cases hx
    unfold bytesT at h1
    split at h1
    · next el =>
      obtain rfl : da = .slice el := by cases da <;> simp [DR] at hra ⊢; exact hra
      cases hel : E.ty.get el with
      | none => rw [hel] at h1; cases h1
      | some ei =>
        rw [hel, oE_some] at h1
        obtain ⟨de, hde, hre, _, _⟩ := (hE.ty _ _ hel).und
        have : de = .int .u8 := by
          unfold isU8 at h1
          split at h1
          · next hd => rw [hd] at hre; cases de <;> simp [DR] at hre ⊢; exact hre
          · cases h1
        subst this
        refine ⟨.string .empty, ?_, str rfl e1⟩
        simp only [Go.convert, Sem.run_bind, run_underlying hda, run_underlying hdb, run_underlying hde, Result.andThen_ok]
        rfl
    · cases h1
  · next n o ln cp =>
    obtain ⟨h1, e1⟩ := bE_no_eq e
    obtain rfl : db = .string := by cases db <;> simp [DR] at hrb ⊢
    obtain ⟨cs, hcs, e2⟩ := oE_no_eq e1
    obtain ⟨m, hm, e3⟩ := oE_no_eq e2
    unfold bytesT at h1
    split at h1
    · next el =>
      obtain rfl : da = .slice el := by cases da <;> simp [DR] at hra ⊢; exact hra
      cases hel : E.ty.get el with
      | none => rw [hel] at h1; cases h1
      | some ei =>
        rw [hel, oE_some] at h1
        obtain ⟨de, hde, hre, _, _⟩ := (hE.ty _ _ hel).und
        have : de = .int .u8 := by
          unfold isU8 at h1
          split at h1
          · next hd => rw [hd] at hre; cases de <;> simp [DR] at hre ⊢; exact hre
          · cases h1
        subst this
        obtain ⟨N, hN1, _, hN2, _⟩ := rowOf_ok (P := P) (s := s) rh hx hcs (m := ln) rfl hp
        obtain ⟨hNm, hlt⟩ := strOf_ok hN1 hm
        have hload := hN2 w.drawn
        have hcap : ∃ (ad : Addr) (cap : Nat), X = .slice (some ad) ln cap := by
          cases hx with
          | slf n o l c L hL => exact ⟨_, _, rfl⟩
          | sle n o l z c L hL _ _ => exact ⟨_, _, rfl⟩
          | slz n o z L a hL _ _ => exact ⟨_, _, rfl⟩
          | slx n o a _ => exact ⟨_, _, rfl⟩
        obtain ⟨ad, cap, rfl⟩ := hcap
        have hl : (loadCells ad ln).run P w = .ok ((m.map Int.ofNat).map (Value.int .u8)).toArray w := by
          have h5 : (Builtin.firstCells 1 ln (.slice (some ad) ln cap)).run P w = .ok N w := hload
          simp only [Builtin.firstCells, Nat.mul_one] at h5
          rw [h5]
          congr 1
          apply Array.toList_inj.1
          rw [hNm]
          simp [Function.comp_def]
        refine ⟨.string ((m.map Int.ofNat).foldl (fun r n => r.push (UInt8.ofNat n.toNat)) ByteArray.empty), ?_, str (by rw [push_bytes m _ hlt]; rfl) e3⟩
        · simp only [Go.convert, Sem.run_bind, run_underlying hda, run_underlying hdb, run_underlying hde, Result.andThen_ok]
          exact run_bytesToString w ad ln cap _ hl
    · cases h1
  · cases e

/-! Rows made. -/
theorem mkSl_ok (hE : EnvOK P E) {s : St} {t : Nat} {ei : TI} {lv cv v : AV} {ln cn : Nat} {X Y : Value} {h : Tr AB} {c : Nat} {tl : List Nat} (rh : RH B ρ G w) (hB : B ≤ w.heap.size)
    (hx : RV ρ lv X) (hy : RV ρ cv Y) (ht : elemT E t = some ei) (hl : inN lv = some ln) (hc : inN cv = some cn) (e : mkSl s ei ln cn = .ok v h c tl) (fr : ∀ n, s.c ≤ n → n < c → ρ n = none) :
    ∃ u w' ρ' G', (Instr.makeSlice t X Y).run P w = .ok u w' ∧ AftO B ρ G w s v h c tl u ρ' G' w' := by
  obtain ⟨h1, e1⟩ := bE_no_eq e
  rw [Bool.and_eq_true] at h1
  have h2 := ble_true h1.1
  obtain ⟨h3, h4⟩ := small_eq h1.2
  obtain ⟨el, hel, hT⟩ := elemT_ok hE ht
  obtain ⟨f, z, d, hi1, hi2, hi3, hi4, hz, hag, hzl, hi5, hi6, hi7⟩ := hT.inf
  obtain ⟨k1, rfl⟩ := inN_eq hl
  obtain ⟨k2, rfl⟩ := inN_eq hc
  cases hx
  cases hy
  have hb : (f.bytes : Int) * (cn : Int) ≤ 281474976710656 := by
    have : f.bytes * cn ≤ 1048576 * 1048576 := by rw [hi3]; exact Nat.mul_le_mul h4 h3
    have h5 : f.bytes * cn ≤ 281474976710656 := by omega
    rw [← Int.natCast_mul]
    omega
  have hcz : z.cells.size = ei.size := by
    have := (hz ρ).length
    simp at this
    omega
  have hrun := run_make (P := P) w t el f z hel hi1 hi4 k1 k2 (ln : Int) (cn : Int) (Int.natCast_nonneg _) (by exact_mod_cast h2) hb (by
    omega)
  simp only [Int.toNat_natCast] at hrun
  have hrep := reps_rv (hz ρ) cn
  rw [show mkSl s ei ln cn = _ from rfl] at e
  obtain ⟨ρ', G', h5, h6⟩ := new_ok (P := P) (t := el) (u := .slice (some ⟨w.heap.size, 0, none⟩) ln cn) (C := madeCells z.cells (cn * f.size)) rh hB (by
    unfold madeCells; rw [hi2, ← hcz]; exact hrep) e1 fr (fun ρ' hρ _ => by
    have := RV.slf (ρ := ρ') s.c 0 ln cn _ hρ
    simpa [Loc.adr] using this)
  exact ⟨_, _, ρ', G', hrun, h6⟩
end
end Go.Ab
namespace Go.Ab
open Go.RowKit (Below)
open Go.MapKept (IsKey bytes_beq run_checkKey run_findKey run_keyThatStays)
section
variable {P : Program} {E : Env} {B : Nat} {ρ : Rho} {G : Hp} {w : World}

/-! Maps. -/
theorem keyD_ok {d : TD} {D : TypeDesc} {k : AV} (h : keyD d k = true) (hd : DR d D) {K : Value} (hk : RV ρ k K) : IsKey D K := by
  unfold keyD at h
  split at h
  · have := keq_eq h
    subst this
    cases hk; cases D <;> simp [DR] at hd ⊢
    subst hd
    simp [IsKey]
  · cases hk; cases D <;> simp [DR] at hd ⊢; simp [IsKey]
  · cases hk; cases D <;> simp [DR] at hd ⊢; simp [IsKey]
  · cases h
theorem ceq_now {d : TD} {D : TypeDesc} {k x : AV} {b : Bool} (h : keyD d k = true) (hd : DR d D) {K X : Value} (hk : RV ρ k K) (hx : RV ρ x X) (e : ceq k x = some b) :
    Instr.sameNow D K X = some b ∧ (b = true → X = K) := by
  unfold keyD at h
  split at h
  · cases hk
    cases x <;> try (cases e; done)
    cases hx
    obtain ⟨j, rfl⟩ : ∃ j, D = .int j := by cases D <;> simp [DR] at hd ⊢
    next n j m =>
    obtain ⟨h1, h2⟩ := bE_none_eq (show bE (keq _ _) (some (ieq _ _)) none = some b from e)
    cases h2
    have := keq_eq h1
    subst this
    rw [ieq_eq]
    refine ⟨by simp [Instr.sameNow], fun h => ?_⟩
    have := eq_of_beq h
    rw [this]
  · cases hk
    cases x <;> try (cases e; done)
    cases hx
    obtain rfl : D = .string := by cases D <;> simp [DR] at hd ⊢
    next S T =>
    cases (show some (seq (bytesOf S) (bytesOf T)) = some b from e)
    refine ⟨?_, fun h => by rw [bytes_inj ((seq_iff _ _).1 h)]⟩
    simp only [Instr.sameNow]
    congr 1
    rw [Bool.eq_iff_iff, bytes_beq, seq_iff]
    exact ⟨fun h => by rw [h], fun h => bytes_inj h⟩
  · cases hk
    cases x <;> try (cases e; done)
    cases hx
    obtain rfl : D = .bool := by cases D <;> simp [DR] at hd ⊢
    next p q =>
    cases (show some (beqB p q) = some b from e)
    cases p <;> cases q <;> simp [Instr.sameNow, beqB, bE]
  · cases h
theorem keyL_ok {d : TD} {D : TypeDesc} {k : AV} (h : keyL d k = true) (hd : DR d D) {K : Value} (hk : RV ρ k K) : IsKey D K := by
  unfold keyL at h
  split at h
  · have := keq_eq h
    subst this
    cases hk; cases D <;> simp [DR] at hd ⊢
    subst hd
    simp [IsKey]
  · cases hk; cases D <;> simp [DR] at hd ⊢; simp [IsKey]
  · exact keyD_ok h hd hk
theorem ceqK_now {d : TD} {D : TypeDesc} {k x : AV} {b : Bool} (h : keyL d k = true) (hd : DR d D) {K X : Value} (hk : RV ρ k K) (hx : RV ρ x X) (e : ceqK k x = some b) :
    Instr.sameNow D K X = some b := by
  have hkey := keyL_ok h hd hk
  obtain ⟨b', hb, e1⟩ | e1 := oE_or_eq (show oE (ceq k x) (oE (binX .eql k x) none asBool) some = some b from e)
  · cases e1
    unfold keyL at h
    split at h
    · cases hb
    · cases hb
    · exact (ceq_now h hd hk hx hb).1
  · obtain ⟨v, hv, e2⟩ := oE_none_eq e1
    obtain rfl := asBool_eq e2
    rcases binX_ok hk hx hv with ⟨j, p, q, v', rfl, rfl, _, _, h4, h5⟩ | ⟨p, q, rfl, rfl, h4⟩
    · cases (show some (AV.bool (ieq p q)) = some v' from h4)
      obtain rfl : ieq p q = b := by
        have := h5 ρ _ (.bool _)
        cases this
        rfl
      cases D <;> simp [IsKey] at hkey
      subst hkey
      simp [Instr.sameNow, ieq_eq]
    · cases (show some (AV.bool (seq (bytesOf p) (bytesOf q))) = some (AV.bool b) from h4)
      cases D <;> simp [IsKey] at hkey
      simp only [Instr.sameNow]
      congr 1
      rw [Bool.eq_iff_iff, bytes_beq, seq_iff]
      exact ⟨fun h => by rw [h], fun h => bytes_inj h⟩
theorem lookK_ok {d : TD} {D : TypeDesc} {k : AV} {K : Value} (h : keyL d k = true) (hd : DR d D) (hk : RV ρ k K) : ∀ {l : List (AV × AV)} {x : List MapEntry} (i : Nat) {r : Option AV}, RVp ρ l x → lookK k l = some r →
    (r = none ∧ Instr.findNow D K x i = some none) ∨ ∃ v j u, r = some v ∧ Instr.findNow D K x i = some (some (j, u)) ∧ RV ρ v u
  | _, _, i, r, .nil, e => by cases e; exact .inl ⟨rfl, rfl⟩
  | _, _, i, r, .cons (k := y) (v := v) (l := l) h1 h2 h3, e => by
    obtain ⟨b, hb, e1⟩ := oE_none_eq (show oE (ceqK k y) none (fun b => bE b (some (some v)) (lookK k l)) = some r from e)
    have hn := ceqK_now h hd hk h1 hb
    cases b with
    | true =>
      cases e1
      exact .inr ⟨v, i, _, rfl, by simp [Instr.findNow, hn], h2⟩
    | false =>
      rcases lookK_ok h hd hk (i + 1) h3 (show lookK k l = some r from e1) with ⟨h4, h5⟩ | ⟨v', j, u, h4, h5, h6⟩
      · exact .inl ⟨h4, by simp [Instr.findNow, hn, h5]⟩
      · exact .inr ⟨v', j, u, h4, by simp [Instr.findNow, hn, h5], h6⟩
theorem setK_ok {d : TD} {D : TypeDesc} {k v : AV} {K V : Value} (h : keyD d k = true) (hd : DR d D) (hk : RV ρ k K) (hv : RV ρ v V) (clock : Nat) : ∀ {l : List (AV × AV)} {x : List MapEntry} (i : Nat) {r : List (AV × AV)}, RVp ρ l x → setK k v l = some r →
    (Instr.findNow D K x i = some none ∧ RVp ρ r (x ++ [{ key := K, val := V, born := clock }])) ∨
      ∃ j u, Instr.findNow D K x i = some (some (i + j, u)) ∧ (x[j]?).map (·.key) = some K ∧ RVp ρ r (x.modify j fun e => { e with key := K, val := V })
  | _, _, i, r, .nil, e => by cases e; exact .inl ⟨rfl, .cons hk hv .nil⟩
  | _, _, i, r, .cons (k := y) (v := v') (e := en) (l := l) (x := x) h1 h2 h3, e => by
    obtain ⟨b, hb, e1⟩ := oE_none_eq (show oE (ceq k y) none (fun b => bE b (some ((k, v) :: l)) (oE (setK k v l) none (fun q => some ((y, v') :: q)))) = some r from e)
    obtain ⟨hn, hkey⟩ := ceq_now h hd hk h1 hb
    cases b with
    | true =>
      cases e1
      refine .inr ⟨0, en.val, by simp [Instr.findNow, hn], by simp [hkey rfl], ?_⟩
      rw [List.modify_zero_cons]
      exact .cons hk hv h3
    | false =>
      obtain ⟨q, hq, e2⟩ := oE_none_eq (show oE (setK k v l) none (fun q => some ((y, v') :: q)) = some r from e1)
      cases e2
      rcases setK_ok h hd hk hv clock (i + 1) h3 hq with ⟨h4, h5⟩ | ⟨j, u, h4, h5, h6⟩
      · exact .inl ⟨by simp [Instr.findNow, hn, h4], .cons h1 h2 h5⟩
      · refine .inr ⟨j + 1, u, by simp [Instr.findNow, hn, h4]; omega, by simpa using h5, ?_⟩
        rw [List.modify_succ_cons]
        exact .cons h1 h2 h6
theorem RVp.length : ∀ {l : List (AV × AV)} {x : List MapEntry}, RVp ρ l x → l.length = x.length
  | _, _, .nil => rfl
  | _, _, .cons _ _ h => by simp [h.length]
theorem amap_eq {h : Tr AB} {n : Nat} {es : List (AV × AV)} (e : entries h (.map n) = some es) : h.get n = some (.amap es) := by
  obtain ⟨b, hb, e1⟩ := oE_none_eq (show oE (h.get n) none _ = some es from e)
  cases b <;> simp at e1
  subst e1; exact hb
/-- a map as it lies in the world -/
theorem amap_ok {n : Nat} {es : List (AV × AV)} {X : Value} (rh : RH B ρ G w) (hG : G n = some (.amap es)) (hx : RV ρ (.map n) X) :
    ∃ L x clock, ρ n = some L ∧ X = .map (some L.blk) ∧ B ≤ L.blk ∧ w.heap[L.blk]? = some (.map x clock) ∧ RVp ρ es x.toList := by
  obtain ⟨L, h1, h2, x, clock, h3, h4⟩ := rh.blk n _ hG
  cases hx with
  | map n M h => rw [h1] at h; cases h; exact ⟨L, x, clock, h1, rfl, h2, h3, h4⟩
theorem zeroV_ok {t : Nat} {ti : TI} {v : AV} (hT : TyOK P t ti) (e : zeroV ti = some v) : ∃ u, (zeroValue t).run P w = .ok u w ∧ RV ρ v u := by
  obtain ⟨z, hz, hag, hzr⟩ := hT.zero
  refine ⟨z, hzr w, ?_⟩
  unfold zeroV at e
  have hz := hz ρ
  cases hb : ti.agg with
  | true =>
    rw [hb, bE_true] at e
    cases e
    rw [hb] at hag
    cases z <;> simp [aggV] at hag
    exact .agg _ _ hz
  | false =>
    rw [hb, bE_false, nth_eq] at e
    rw [hb] at hag
    obtain ⟨u, hu, hr⟩ := hz.get 0 e
    cases z <;> first | (simp [aggV] at hag; done) | (simp [Value.cells] at hu; subst hu; exact hr)
theorem withOk_rv {ok b : Bool} {v : AV} {u : Value} (h : RV ρ v u) : RV ρ (withOk ok v b) (if ok then .tuple #[u, .bool b] else u) := by
  cases ok with
  | true => exact .tup _ _ (.cons h (.cons (.bool b) .nil))
  | false => exact h
theorem lookup_ok (hE : EnvOK P E) {s : St} {t : Nat} {ti : TI} {x k v : AV} {X K : Value} {ok : Bool} {h : Tr AB} {c : Nat} {tl : List Nat} (rh : RH B ρ G w) (hx : RV ρ x X) (hk : RV ρ k K)
    (ht : E.ty.get t = some ti) (e : lookup E s x k ok ti.d = .ok v h c tl) (hp : ∀ n ∈ refsV x, ∀ b, s.h.get n = some b → G n = some b) :
    ∃ u, (Instr.lookup t X K ok).run P w = .ok u w ∧ AftO B ρ G w s v h c tl u ρ G w := by
  obtain ⟨d, hd, hr, _, _⟩ := (hE.ty _ _ ht).und
  unfold lookup at e
  split at e
  · next kt et hkt =>
    rw [hkt] at hr
    obtain ⟨j, f, rfl⟩ : ∃ j f, d = .map j f := by cases d <;> simp [DR] at hr ⊢
    simp only [DR] at hr
    obtain ⟨rfl, rfl⟩ := hr
    obtain ⟨ki, hki, e1⟩ := oE_no_eq e
    obtain ⟨hkd, e2⟩ := bE_no_eq e1
    obtain ⟨ei, hei, e3⟩ := oE_no_eq e2
    obtain ⟨es, hes, e4⟩ := oE_no_eq e3
    obtain ⟨r, hlr, e5⟩ := oE_no_eq e4
    obtain ⟨D, hD, hDr, _, _⟩ := (hE.ty _ _ hki).und
    have hkey := keyL_ok hkd hDr hk
    have main : ∀ (xs : Array MapEntry), RVp ρ es xs.toList → (Instr.checkKey xs.isEmpty 10000 j K).run P w = .ok () w ∧
        ((∃ z, (Instr.findKey j K xs.toList).run P w = .ok none w ∧ (zeroValue f).run P w = .ok z w ∧ AftO B ρ G w s v h c tl (if ok then .tuple #[z, .bool false] else z) ρ G w) ∨
          ∃ q z, (Instr.findKey j K xs.toList).run P w = .ok (some (q, z)) w ∧ AftO B ρ G w s v h c tl (if ok then .tuple #[z, .bool true] else z) ρ G w) := by
      intro xs hxs
      refine ⟨run_checkKey (P := P) (w := w) hD hkey xs.isEmpty 9999, ?_⟩
      rcases lookK_ok hkd hDr hk 0 hxs hlr with ⟨rfl, hf⟩ | ⟨v', q, u, rfl, hf, hvu⟩
      · obtain ⟨zv, hzv, e6⟩ := oE_no_eq (show oE (zeroV ei) .no (fun v => Go.Ab.pure s (withOk ok v false)) = .ok v h c tl from e5)
        obtain ⟨u, hu, hru⟩ := zeroV_ok (w := w) (ρ := ρ) (hE.ty _ _ hei) hzv
        rw [pure_eq] at e6
        cases e6
        exact .inl ⟨u, run_findKey (w := w) hD hf, hu, AftO.pure rh (withOk_rv hru)⟩
      · rw [oE_some, pure_eq] at e5
        cases e5
        exact .inr ⟨q, u, run_findKey (w := w) hD hf, AftO.pure rh (withOk_rv hvu)⟩
    cases x <;> try (cases hes; done)
    · cases hx
      cases hes
      obtain ⟨h0, ⟨z, h1, h2, h3⟩ | ⟨q, z, h1, h3⟩⟩ := main #[] .nil
      · refine ⟨_, ?_, h3⟩
        simp only [Instr.lookup, Sem.run_bind, run_underlying hd, Result.andThen_ok, Sem.run_pure, h0, h1, h2]
      · refine ⟨_, ?_, h3⟩
        simp only [Instr.lookup, Sem.run_bind, run_underlying hd, Result.andThen_ok, Sem.run_pure, h0, h1]
    · next n =>
      have hg := amap_eq hes
      have hG := hp n (by simp [refsV, asPtr, oE]) _ hg
      obtain ⟨L, x, clock, _, rfl, _, hh, hxs⟩ := amap_ok rh hG hx
      have hgo := Go.MapKept.run_getObj_map (P := P) hh
      obtain ⟨h0, ⟨z, h1, h2, h3⟩ | ⟨q, z, h1, h3⟩⟩ := main x hxs
      · refine ⟨_, ?_, h3⟩
        simp only [Instr.lookup, Sem.run_bind, run_underlying hd, Result.andThen_ok, Sem.run_pure, hgo, h0, h1, h2]
      · refine ⟨_, ?_, h3⟩
        simp only [Instr.lookup, Sem.run_bind, run_underlying hd, Result.andThen_ok, Sem.run_pure, hgo, h0, h1]
  · cases e
/-- one object of the world turned -/
theorem setObj_other {L : Nat} (o : Obj) (w : World) {b : Nat} (h : b ≠ L) : ({ w with heap := w.heap.setIfInBounds L o } : World).heap[b]? = w.heap[b]? := by
  simp [Ne.symm h]
theorem setObj_below {L : Nat} (o : Obj) (hL : B ≤ L) : Below B w { w with heap := w.heap.setIfInBounds L o } :=
  ⟨rfl, rfl, rfl, by simp, fun k hk => setObj_other o w (by omega)⟩
theorem obj_upd {n : Nat} {L : Loc} {a b : AB} {o o' : Obj} (rh : RH B ρ G w) (hG : G n = some a) (hL : ρ n = some L) (hown : a.own = true) (hhas : ∀ i, a.has L i) (ho : w.heap[L.blk]? = some o)
    (h1 : ∀ c e r, o ≠ .cells c e r) (h2 : ∀ c e r, o' ≠ .cells c e r)
    (hb : RB B ρ { w with heap := w.heap.setIfInBounds L.blk o' } L b) : RH B ρ (upF G n (some b)) { w with heap := w.heap.setIfInBounds L.blk o' } := by
  have hlt : L.blk < w.heap.size := rh.inn n L hL
  have hn : ({ w with heap := w.heap.setIfInBounds L.blk o' } : World).heap[L.blk]? = some o' := by simp [hlt]
  refine rh.upd hG hL hown (by simp) (fun b hb => setObj_other _ _ hb) (.inr ⟨0, hhas 0⟩) (fun i hi => absurd (hhas i) hi) (fun x => ?_) hb (fun i _ => hhas i)
  unfold World.frozen?
  by_cases hab : x.block = L.blk
  · rw [hab, hn, ho]
    cases o <;> cases o' <;> first | rfl | exact absurd rfl (h1 _ _ _) | exact absurd rfl (h2 _ _ _)
  · rw [setObj_other _ _ hab]
theorem mapUpd_ok (hE : EnvOK P E) {s : St} {t : Nat} {ti : TI} {x k y v : AV} {X K Y : Value} {h : Tr AB} {c : Nat} {tl : List Nat} (rh : RH B ρ G w) (hx : RV ρ x X) (hk : RV ρ k K) (hy : RV ρ y Y)
    (ht : E.ty.get t = some ti) (e : mapUpd E s k y ti.d x = .ok v h c tl) (hp : ∀ n ∈ refsV x, ∀ b, s.h.get n = some b → G n = some b) :
    ∃ w' G', (Instr.mapUpdate t X K Y).run P w = .ok () w' ∧ AftO B ρ G w s v h c tl undef ρ G' w' := by
  obtain ⟨d, hd, hr, _, _⟩ := (hE.ty _ _ ht).und
  generalize hdd : ti.d = dd at *
  unfold mapUpd at e
  split at e
  · next kt et n =>
    obtain ⟨j, f, rfl⟩ : ∃ j f, d = .map j f := by cases d <;> simp [DR] at hr ⊢
    simp only [DR] at hr
    obtain ⟨rfl, rfl⟩ := hr
    obtain ⟨ki, hki, e1⟩ := oE_no_eq e
    obtain ⟨hkd, e2⟩ := bE_no_eq e1
    obtain ⟨es, hes, e4⟩ := oE_no_eq e2
    obtain ⟨r, hlr, e5⟩ := oE_no_eq e4
    rw [upd_eq] at e5
    cases e5
    obtain ⟨D, hD, hDr, _, _⟩ := (hE.ty _ _ hki).und
    have hkey := keyD_ok hkd hDr hk
    have hg := amap_eq hes
    have hG := hp n (by simp [refsV, asPtr, oE]) _ hg
    obtain ⟨L, xs, clock, hL, rfl, hB, hh, hxs⟩ := amap_ok rh hG hx
    have hgo := Go.MapKept.run_getObj_map (P := P) hh
    have hck := run_checkKey (P := P) (w := w) hD hkey false 9999
    have done : ∀ (o' : Obj) (ys : Array MapEntry) (cl : Nat), o' = .map ys cl → RVp ρ r ys.toList →
        AftO B ρ G w s (.tup []) (s.h.set n (.amap r)) s.c [n] undef ρ (upF G n (some (.amap r))) { w with heap := w.heap.setIfInBounds L.blk o' } := by
      intro o' ys cl ho' hys
      subst ho'
      have hlt : L.blk < w.heap.size := rh.inn n L hL
      exact AftO.upd hG hL rfl (fun k hk _ => setObj_other _ _ hk) (obj_upd rh hG hL rfl (fun _ => trivial) hh (by simp) (by simp) ⟨hB, ys, cl, by simp [hlt], hys⟩) (.tup [] #[] .nil) (setObj_below _ hB)
    rcases setK_ok hkd hDr hk hy clock 0 hxs hlr with ⟨hf, hrv⟩ | ⟨q, u, hf, hkq, hrv⟩
    · refine ⟨_, _, ?_, done _ (xs.push { key := K, val := Y, born := clock }) (clock + 1) rfl (by simpa using hrv)⟩
      simp only [Instr.mapUpdate, Sem.run_bind, run_underlying hd, Result.andThen_ok, hgo, hck, run_findKey (w := w) hD hf, Go.MapKept.run_setObj_map (P := P) _ hh]
    · refine ⟨_, _, ?_, done _ (xs.modify q fun e => { e with key := K, val := Y }) clock rfl (by simpa using hrv)⟩
      have hq : ((xs[q]?).map (·.key)).getD K = K := by rw [← Array.getElem?_toList, hkq]; rfl
      simp only [Instr.mapUpdate, Sem.run_bind, run_underlying hd, Result.andThen_ok, hgo, hck, run_findKey (w := w) hD hf, Nat.zero_add, hq, run_keyThatStays (P := P) (w := w) hkey, Go.MapKept.run_setObj_map (P := P) _ hh]
  · cases e
end
end Go.Ab
namespace Go.Ab
open Go.RowKit (Below)
section
variable {P : Program} {E : Env} {B : Nat} {ρ : Rho} {G : Hp} {w : World}

/-! Strings by runes. -/
theorem bytesOf_get {S : ByteArray} {p b : Nat} (h : (bytesOf S)[p]? = some b) : p < S.size ∧ (S.get! p).toNat = b := by
  simp only [bytesOf, List.getElem?_map, Array.getElem?_toList, Option.map_eq_some_iff] at h
  obtain ⟨x, hx, rfl⟩ := h
  have hp : p < S.data.size := (Array.getElem?_eq_some_iff.1 hx).1
  refine ⟨hp, ?_⟩
  obtain ⟨d⟩ := S
  show (d[p]!).toNat = _
  rw [Array.getElem!_eq_getD, Array.getD_eq_getD_getElem?]
  rw [show d[p]? = some x from hx]
  rfl
theorem rangeV_ok (hE : EnvOK P E) {s : St} {t : Nat} {ti : TI} {x v : AV} {X : Value} {h : Tr AB} {c : Nat} {tl : List Nat} (rh : RH B ρ G w) (hB : B ≤ w.heap.size) (hx : RV ρ x X)
    (ht : E.ty.get t = some ti) (e : rangeV s ti.d x = .ok v h c tl) (fr : ∀ n, s.c ≤ n → n < c → ρ n = none) :
    ∃ u w' ρ' G', (Instr.range t X).run P w = .ok u w' ∧ AftO B ρ G w s v h c tl u ρ' G' w' := by
  obtain ⟨d, hd, hr, _, _⟩ := (hE.ty _ _ ht).und
  generalize hdd : ti.d = dd at *
  unfold rangeV at e
  split at e
  · next l =>
    obtain rfl : d = .string := by cases d <;> simp [DR] at hr ⊢
    rw [newO_eq] at e
    cases e
    have fr' := fr s.c (Nat.le_refl _) (Nat.lt_succ_self _)
    cases hx with
    | str S =>
      refine ⟨_, _, _, _, ?_, AftO.new rh hB fr' (.stringIter S 0) 0 (u := .pointer (some ⟨w.heap.size, 0, none⟩)) ?_ ⟨hB, rfl, S, (Go.MapKept.heap_alloc w _).1, rfl⟩⟩
      · simp only [Instr.range, Sem.run_bind, run_underlying hd, Result.andThen_ok, Sem.run_pure]
        rfl
      · have := RV.ptr (ρ := upF ρ s.c (some ⟨w.heap.size, 0, 0, undef, 0⟩)) s.c 0 _ (upF_same _ _ _)
        simpa [Loc.adr, ptr0] using this
  · cases e
theorem next_ok {s : St} {x v : AV} {X : Value} {str : Bool} {T : TypeId} {h : Tr AB} {c : Nat} {tl : List Nat} (rh : RH B ρ G w) (hx : RV ρ x X)
    (e : next s str x = .ok v h c tl) (hp : ∀ n ∈ refsV x, ∀ b, s.h.get n = some b → G n = some b) :
    ∃ u w' G', (Instr.next X str T).run P w = .ok u w' ∧ AftO B ρ G w s v h c tl u ρ G' w' := by
  unfold next at e
  split at e
  · next n =>
    obtain ⟨rfl, e1⟩ := bE_no_eq e
    obtain ⟨b, hb, e2⟩ := oE_no_eq e1
    split at e2
    · next l p =>
      have hG := hp n (by simp [refsV, asPtr, oE]) _ hb
      obtain ⟨L, hL, hBL, hbase, S, hh, hS⟩ := rh.blk n _ hG
      subst hS
      cases hx with
      | ptr n o M hM =>
        rw [hL] at hM; cases hM
        have hlt : L.blk < w.heap.size := rh.inn n L hL
        have hgo : (getObj L.blk).run P w = .ok (.stringIter S p) w := by simp [getObj, Sem.run, hh]
        have hX : (L.adr 0) = ⟨L.blk, 0, none⟩ := by simp [Loc.adr, hbase]
        unfold next1 at e2
        rw [nth_eq] at e2
        cases hq : (bytesOf S)[p]? with
        | none =>
          rw [hq, oE_none] at e2
          obtain ⟨h1, e3⟩ := bE_no_eq e2
          rw [pure_eq] at e3
          cases e3
          have h2 := beq_true h1
          rw [len_eq, bytesOf_length] at h2
          refine ⟨.tuple #[.bool false], w, G, ?_, AftO.pure rh (.tup _ _ (.cons (.bool false) .nil))⟩
          rw [hX]
          simp only [Instr.next, Sem.run_bind, hgo, Result.andThen_ok]
          rw [if_neg (by omega)]
          rfl
        | some b =>
          rw [hq, oE_some] at e2
          obtain ⟨h1, e3⟩ := bE_no_eq e2
          rw [upd_eq] at e3
          cases e3
          have h2 : b < 128 := ble_true h1
          obtain ⟨h3, h4⟩ := bytesOf_get hq
          have hdec : Utf8.decode S p = (b, 1) := by
            unfold Utf8.decode
            simp only [Nat.add_zero, h4]
            rw [if_pos (by simpa using h2)]
          have hset : (setObj L.blk (.stringIter S (p + 1))).run P w = .ok () { w with heap := w.heap.setIfInBounds L.blk (.stringIter S (p + 1)) } := by
            simp [setObj, Sem.run, hh]
          refine ⟨.tuple #[.bool true, goInt p, .int .i32 b], _, _, ?_, AftO.upd hG hL rfl (fun k hk _ => setObj_other _ _ hk) (obj_upd (o' := .stringIter S (p + 1)) (b := .siter (bytesOf S) (p + 1)) rh hG hL rfl (fun _ => trivial) hh (by simp) (by simp) ⟨hBL, hbase, S, by simp [hlt], rfl⟩)
            (.tup _ _ (.cons (.bool true) (.cons (.int _ _) (.cons (.int _ _) .nil)))) (setObj_below _ hBL)⟩
          rw [hX]
          simp only [Instr.next, Sem.run_bind, hgo, Result.andThen_ok]
          rw [if_pos h3, hdec]
          simp only [Sem.run_bind, hset, Result.andThen_ok]
          rfl
    · cases e2
  · cases e

/-! Lengths, the greatest, the least. -/
theorem lenOf_ok (hE : EnvOK P E) {s : St} {t T : Nat} {ti : TI} {x v : AV} {X : Value} (rh : RH B ρ G w) (hx : RV ρ x X)
    (ht : E.ty.get t = some ti) (e : lenOf s ti.d x = some v) (hp : ∀ n ∈ refsV x, ∀ b, s.h.get n = some b → G n = some b) :
    ∃ u, (Builtin.len_ #[t] T #[X]).run P w = .ok u w ∧ RV ρ v u := by
  obtain ⟨d, hd, hr, _, _⟩ := (hE.ty _ _ ht).und
  generalize hdd : ti.d = dd at *
  have fin : ∀ {u : Value} {n : Nat}, u = goInt n → RV ρ (i64 n) u := by rintro u n rfl; exact .int _ _
  unfold lenOf at e
  split at e
  · obtain rfl : d = .string := by cases d <;> simp [DR] at hr ⊢
    cases e
    cases hx with
    | str S => exact ⟨_, by simp only [Builtin.len_, List.getElem?_toArray, List.getElem?_cons_zero, Sem.run_bind, run_underlying hd, Result.andThen_ok]; rfl, by rw [len_eq, bytesOf_length]; exact fin rfl⟩
  · obtain rfl : d = .string := by cases d <;> simp [DR] at hr ⊢
    cases e
    cases hx with
    | snot ne lo hi S h1 h2 h3 =>
      refine ⟨_, by simp only [Builtin.len_, List.getElem?_toArray, List.getElem?_cons_zero, Sem.run_bind, run_underlying hd, Result.andThen_ok]; rfl, .rng _ _ _ _ (fun l hl => ?_) (fun l hl => ?_)⟩
      · obtain ⟨a, ha, e2⟩ := oE_none_eq hl
        cases e2; have := h2 a ha; simp; omega
      · obtain ⟨a, ha, e2⟩ := oE_none_eq hl
        cases e2; have := h3 a ha; simp; omega
  · obtain ⟨f, rfl⟩ : ∃ f, d = .slice f := by cases d <;> simp [DR] at hr ⊢
    cases e; cases hx
    exact ⟨_, by simp only [Builtin.len_, List.getElem?_toArray, List.getElem?_cons_zero, Sem.run_bind, run_underlying hd, Result.andThen_ok]; rfl, fin rfl⟩
  · obtain ⟨f, rfl⟩ : ∃ f, d = .slice f := by cases d <;> simp [DR] at hr ⊢
    cases e
    cases hx <;> exact ⟨_, by simp only [Builtin.len_, List.getElem?_toArray, List.getElem?_cons_zero, Sem.run_bind, run_underlying hd, Result.andThen_ok]; rfl, fin rfl⟩
  · obtain ⟨m, f, rfl⟩ : ∃ m f, d = .array m f := by cases d <;> simp [DR] at hr ⊢
    simp only [DR] at hr
    obtain ⟨rfl, _⟩ := hr
    cases e
    exact ⟨_, by simp only [Builtin.len_, List.getElem?_toArray, List.getElem?_cons_zero, Sem.run_bind, run_underlying hd, Result.andThen_ok]; rfl, fin rfl⟩
  · obtain ⟨m, f, rfl⟩ : ∃ m f, d = .map m f := by cases d <;> simp [DR] at hr ⊢
    cases e; cases hx
    exact ⟨_, by simp only [Builtin.len_, List.getElem?_toArray, List.getElem?_cons_zero, Sem.run_bind, run_underlying hd, Result.andThen_ok]; rfl, fin rfl⟩
  · next n =>
    obtain ⟨m, f, rfl⟩ : ∃ m f, d = .map m f := by cases d <;> simp [DR] at hr ⊢
    obtain ⟨es, hes, e1⟩ := oE_none_eq e
    cases e1
    have hg := amap_eq hes
    have hG := hp n (by simp [refsV, asPtr, oE]) _ hg
    obtain ⟨L, xs, clock, hL, rfl, hB, hh, hxs⟩ := amap_ok rh hG hx
    refine ⟨_, by simp only [Builtin.len_, List.getElem?_toArray, List.getElem?_cons_zero, Sem.run_bind, run_underlying hd, Result.andThen_ok, Go.MapKept.run_getObj_map (P := P) hh]; rfl, by rw [len_eq, hxs.length]; exact fin (by simp)⟩
  · cases e
theorem maxs_ok {le : Int → Int → Bool} {f : Value → Value → Sem Value} (hf : ∀ k a j b, f (.int k a) (.int j b) = Pure.pure (.int k (if le a b then b else a))) :
    ∀ {l : List AV} {xs : List Value} {a v : AV} {A : Value}, RVs ρ l xs → RV ρ a A → maxs le l a = some v → ∃ u, (xs.foldlM f A).run P w = .ok u w ∧ RV ρ v u
  | _, _, a, v, A, .nil, h, e => by cases e; exact ⟨A, rfl, h⟩
  | _, _, a, v, A, .cons (v := x) (l := l) h1 h2, h, e => by
    obtain ⟨m, hm, e1⟩ := oE_none_eq (show oE (max1 le a x) none (maxs le l) = some v from e)
    unfold max1 at hm
    split at hm
    · next k p j q =>
      cases hm; cases h; cases h1
      have hr : RV ρ (.int k (bE (le p q) q p)) (.int k (if le p q then q else p)) := by
        cases le p q <;> exact .int _ _
      obtain ⟨u, h3, h4⟩ := maxs_ok hf h2 hr e1
      refine ⟨u, ?_, h4⟩
      rw [List.foldlM_cons, hf]
      simpa using h3
    · cases hm
theorem max_ok {l : List AV} {xs : Array Value} {a v : AV} {A : Value} {tt : Array TypeId} {T : TypeId} (h1 : RVs ρ (a :: l) xs.toList) (e : maxs ilt l a = some v) :
    ∃ u, (Builtin.max_ tt T xs).run P w = .ok u w ∧ RV ρ v u := by
  unfold Builtin.max_
  generalize xs.toList = ys at h1
  cases h1 with
  | cons h1 h2 =>
    exact maxs_ok (fun k a j b => by
      simp only [Builtin.max2, ilt_eq, decide_eq_true_eq]) h2 h1 e
theorem min_ok {l : List AV} {xs : Array Value} {a v : AV} {A : Value} {tt : Array TypeId} {T : TypeId} (h1 : RVs ρ (a :: l) xs.toList) (e : maxs ige l a = some v) :
    ∃ u, (Builtin.min_ tt T xs).run P w = .ok u w ∧ RV ρ v u := by
  unfold Builtin.min_
  generalize xs.toList = ys at h1
  cases h1 with
  | cons h1 h2 =>
    exact maxs_ok (fun k a j b => by
      simp only [Builtin.min2, ige, ilt_eq, decide_eq_true_eq]) h2 h1 e
end
end Go.Ab
namespace Go.Ab
open Go.RowKit (Below)
section
variable {P : Program} {E : Env} {B : Nat} {ρ : Rho} {G : Hp} {w : World}

theorem refsO_mem {t : Tr AV} {x : Operand} {v : AV} {n : Nat} : ∀ {l : List Operand}, x ∈ l → ev t x = some v → n ∈ refsV v → n ∈ refsO t l
  | [], h, _, _ => by simp at h
  | y :: l, h, e, hn => by
    show n ∈ oE (ev t y) (refsO t l) (fun v => refsV v ++ refsO t l)
    rcases List.mem_cons.1 h with rfl | h
    · rw [e, oE_some]; exact List.mem_append_left _ hn
    · have := refsO_mem h e hn
      cases ev t y with
      | none => exact this
      | some q => exact List.mem_append_right _ this

/-- What an operation that is no call of a function comes to. -/
def OpOK (P : Program) (B : Nat) (ρ : Rho) (G : Hp) (w : World) (s : St) (sem : Sem Next) (v : AV) (h : Tr AB) (c : Nat) (tl : List Nat) : Prop :=
  ∃ u nx w' ρ' G', sem.run P w = .ok nx w' ∧ (nx = .value u ∨ nx = .skip ∧ u = undef) ∧ AftO B ρ G w s v h c tl u ρ' G' w'
theorem OpOK.pure {s : St} {m : Sem Value} {x : Option AV} {v : AV} {h : Tr AB} {c : Nat} {tl : List Nat} (rh : RH B ρ G w) (e : pureO s x = .ok v h c tl)
    (hm : ∀ v, x = some v → ∃ u, m.run P w = .ok u w ∧ RV ρ v u) : OpOK P B ρ G w s (do Pure.pure (.value (← m))) v h c tl := by
  obtain ⟨e1, rfl, rfl, rfl⟩ := pureO_eq e
  obtain ⟨u, h1, h2⟩ := hm v e1
  exact ⟨u, _, w, ρ, G, by simp [h1], .inl rfl, AftO.pure rh h2⟩
theorem OpOK.val {s : St} {m : Sem Value} {v : AV} {h : Tr AB} {c : Nat} {tl : List Nat} (hm : ∃ u w' ρ' G', m.run P w = .ok u w' ∧ AftO B ρ G w s v h c tl u ρ' G' w') :
    OpOK P B ρ G w s (do Pure.pure (.value (← m))) v h c tl := by
  obtain ⟨u, w', ρ', G', h1, h2⟩ := hm
  exact ⟨u, _, w', ρ', G', by simp [h1], .inl rfl, h2⟩
theorem OpOK.unit {s : St} {m : Sem Unit} {v : AV} {h : Tr AB} {c : Nat} {tl : List Nat} (hm : ∃ w' G', m.run P w = .ok () w' ∧ AftO B ρ G w s v h c tl undef ρ G' w') :
    OpOK P B ρ G w s (do m; Pure.pure .skip) v h c tl := by
  obtain ⟨w', G', h1, h2⟩ := hm
  exact ⟨undef, .skip, w', ρ, G', by simp [h1], .inr ⟨rfl, rfl⟩, h2⟩

theorem bi_ok {s : St} {a : Act} (hE : EnvOK P E) (rh : RH B ρ G w) (hB : B ≤ w.heap.size) {cl : Call} (tm : TO ρ s.t a cl.args.toList) {b : Builtin} (hcl : cl.callee = .builtin b) {T : TypeId} {v : AV} {h : Tr AB} {c : Nat} {tl : List Nat} (e : bi E s b cl.args.toList cl.argTypes.toList = .ok v h c tl)
    (fr : ∀ n, s.c ≤ n → n < c → ρ n = none) (hp : ∀ n ∈ refsO s.t cl.args.toList, ∀ b, s.h.get n = some b → G n = some b) :
    OpOK P B ρ G w s (do let d ← resolve a.eval cl T; invoke d.target d.args) v h c tl := by
  have hres : ∀ w, (resolve a.eval cl T).run P w = .ok { target := .builtin b cl.argTypes T (cl.args.map fun | .const _ => true | _ => false), args := cl.args.map a.eval } w := by
    intro w; simp only [resolve, hcl]; rfl
  have key : ∀ m : Sem Value, (∀ cs, builtin b cl.argTypes T cs (cl.args.map a.eval) = (do Pure.pure (.value (← m)))) → (∃ u w' ρ' G', m.run P w = .ok u w' ∧ AftO B ρ G w s v h c tl u ρ' G' w') →
      OpOK P B ρ G w s (do let d ← resolve a.eval cl T; invoke d.target d.args) v h c tl := by
    intro m hb ⟨u, w', ρ', G', h1, h2⟩
    refine ⟨u, .value u, w', ρ', G', ?_, .inl rfl, h2⟩
    simp only [Sem.run_bind, hres, Result.andThen_ok, invoke, hb, h1, Sem.run_pure]
  have args : ∀ {l}, cl.args.toList = l → cl.args = l.toArray := fun h => by rw [← h]
  have types : ∀ {l}, cl.argTypes.toList = l → cl.argTypes = l.toArray := fun h => by rw [← h]
  unfold bi at e
  split at e
  · next x t hx ht =>
    obtain ⟨xv, hxv, e1⟩ := oE_no_eq e
    obtain ⟨ti, hti, e2⟩ := oE_no_eq e1
    obtain ⟨e3, rfl, rfl, rfl⟩ := pureO_eq e2
    obtain ⟨u, h1, h2⟩ := lenOf_ok (T := T) hE rh (tm x (by rw [hx]; simp) _ hxv) hti e3 (fun n hn => hp n (refsO_mem (x := x) (by rw [hx]; simp) hxv hn))
    refine key _ (fun cs => rfl) ⟨u, w, ρ, G, ?_, AftO.pure rh h2⟩
    rw [args hx, types ht]
    simpa using h1
  · next x y t u hxy htu =>
    obtain ⟨xv, hxv, e1⟩ := oE_no_eq e
    obtain ⟨yv, hyv, e2⟩ := oE_no_eq e1
    obtain ⟨ei, hei, e3⟩ := oE_no_eq e2
    obtain ⟨ui, hui, e4⟩ := oE_no_eq e3
    obtain ⟨hz, e5⟩ := bE_no_eq' e4
    obtain ⟨hrow, e6⟩ := bE_no_eq e5
    obtain ⟨m, hm, e7⟩ := oE_no_eq e6
    obtain ⟨cs, hcs, e8⟩ := oE_no_eq e7
    obtain ⟨hl, e9⟩ := bE_no_eq e8
    obtain ⟨el, hel, hT⟩ := elemT_ok hE hei
    obtain ⟨N, hN1, hN2, hN3, _⟩ := rowOf_ok (P := P) rh (tm y (by rw [hxy]; simp) _ hyv) hcs hm (fun n hn => hp n (refsO_mem (x := y) (by rw [hxy]; simp) hyv hn))
    obtain ⟨d, hd, hr, _, _⟩ := (hE.ty _ _ hui).und
    have hni : (∃ e, d = .slice e) ∨ d = .string := by
      unfold isRow at hrow
      split at hrow
      · next hdd => rw [hdd] at hr; cases d <;> simp [DR] at hr ⊢
      · next hdd => rw [hdd] at hr; cases d <;> simp [DR] at hr ⊢
      · cases hrow
    have hl' := beq_true hl
    rw [len_eq] at hl'
    obtain ⟨u', w', ρ', G', h1, h2⟩ := append_ok (P := P) hE hel hT hd hni hN2 hN3 hN1 hl' (beq_false hz) (tm x (by rw [hxy]; simp) _ hxv) e9 rh hB (fun n hn => hp n (refsO_mem (x := x) (by rw [hxy]; simp) hxv hn)) fr
    refine key _ (fun cs => rfl) ⟨u', w', ρ', G', ?_, h2⟩
    rw [args hxy, types htu]
    simpa using h1
  · obtain ⟨l, hl, e1⟩ := oE_no_eq e
    cases l with
    | nil => cases e1
    | cons x r =>
      obtain ⟨e3, rfl, rfl, rfl⟩ := pureO_eq (show pureO s (maxs ilt r x) = .ok v h c tl from e1)
      obtain ⟨u, h1, h2⟩ := max_ok (P := P) (w := w) (ρ := ρ) (xs := cl.args.map a.eval) (tt := cl.argTypes) (T := T) (A := undef) (by simpa using tm.evs hl) e3
      exact key _ (fun cs => rfl) ⟨u, w, ρ, G, h1, AftO.pure rh h2⟩
  · obtain ⟨l, hl, e1⟩ := oE_no_eq e
    cases l with
    | nil => cases e1
    | cons x r =>
      obtain ⟨e3, rfl, rfl, rfl⟩ := pureO_eq (show pureO s (maxs ige r x) = .ok v h c tl from e1)
      obtain ⟨u, h1, h2⟩ := min_ok (P := P) (w := w) (ρ := ρ) (xs := cl.args.map a.eval) (tt := cl.argTypes) (T := T) (A := undef) (by simpa using tm.evs hl) e3
      exact key _ (fun cs => rfl) ⟨u, w, ρ, G, h1, AftO.pure rh h2⟩
  · cases e
end
end Go.Ab
