/- A part of an evaluator of the program's operations over values that are known whole or in part, and of the proof that what it answers holds of the program's run. No condition. -/
import Derived.Test.YtlegocibpfflnaaGreatDoorS12
namespace Go.Ab
open Go.RowKit (Below)
open Go.MapKept (IsKey bytes_beq run_checkKey run_findKey run_keyThatStays)
section
variable {P : Program} {E : Env} {B : Nat} {ρ : Rho} {G : Hp} {w : World}

/-! Maps. -/
theorem keyD_ok {d : TD} {D : TypeDesc} {k : AV} (h : keyD d k = true) (hd : DR d D) {K : Value} (hk : RV ρ k K) : IsKey D K := by
  unfold keyD at h
  split at h
  · have := keq_eq h
    subst this
    cases hk; cases D <;> simp [DR] at hd ⊢
    subst hd
    simp [IsKey]
  · cases hk; cases D <;> simp [DR] at hd ⊢; simp [IsKey]
  · cases hk; cases D <;> simp [DR] at hd ⊢; simp [IsKey]
  · cases h
theorem ceq_now {d : TD} {D : TypeDesc} {k x : AV} {b : Bool} (h : keyD d k = true) (hd : DR d D) {K X : Value} (hk : RV ρ k K) (hx : RV ρ x X) (e : ceq k x = some b) :
    Instr.sameNow D K X = some b ∧ (b = true → X = K) := by
  unfold keyD at h
  split at h
  · cases hk
    cases x <;> try (cases e; done)
    cases hx
    obtain ⟨j, rfl⟩ : ∃ j, D = .int j := by cases D <;> simp [DR] at hd ⊢
    next n j m =>
    obtain ⟨h1, h2⟩ := bE_none_eq (show bE (keq _ _) (some (ieq _ _)) none = some b from e)
    cases h2
    have := keq_eq h1
    subst this
    rw [ieq_eq]
    refine ⟨by simp [Instr.sameNow], fun h => ?_⟩
    have := eq_of_beq h
    rw [this]
  · cases hk
    cases x <;> try (cases e; done)
    cases hx
    obtain rfl : D = .string := by cases D <;> simp [DR] at hd ⊢
    next S T =>
    cases (show some (seq (bytesOf S) (bytesOf T)) = some b from e)
    refine ⟨?_, fun h => by rw [bytes_inj ((seq_iff _ _).1 h)]⟩
    simp only [Instr.sameNow]
    congr 1
    rw [Bool.eq_iff_iff, bytes_beq, seq_iff]
    exact ⟨fun h => by rw [h], fun h => bytes_inj h⟩
  · cases hk
    cases x <;> try (cases e; done)
    cases hx
    obtain rfl : D = .bool := by cases D <;> simp [DR] at hd ⊢
    next p q =>
    cases (show some (beqB p q) = some b from e)
    cases p <;> cases q <;> simp [Instr.sameNow, beqB, bE]
  · cases h
theorem keyL_ok {d : TD} {D : TypeDesc} {k : AV} (h : keyL d k = true) (hd : DR d D) {K : Value} (hk : RV ρ k K) : IsKey D K := by
  unfold keyL at h
  split at h
  · have := keq_eq h
    subst this
    cases hk; cases D <;> simp [DR] at hd ⊢
    subst hd
    simp [IsKey]
  · cases hk; cases D <;> simp [DR] at hd ⊢; simp [IsKey]
  · exact keyD_ok h hd hk
theorem ceqK_now {d : TD} {D : TypeDesc} {k x : AV} {b : Bool} (h : keyL d k = true) (hd : DR d D) {K X : Value} (hk : RV ρ k K) (hx : RV ρ x X) (e : ceqK k x = some b) :
    Instr.sameNow D K X = some b := by
  have hkey := keyL_ok h hd hk
  obtain ⟨b', hb, e1⟩ | e1 := oE_or_eq (show oE (ceq k x) (oE (binX .eql k x) none asBool) some = some b from e)
  · cases e1
    unfold keyL at h
    split at h
    · cases hb
    · cases hb
    · exact (ceq_now h hd hk hx hb).1
  · obtain ⟨v, hv, e2⟩ := oE_none_eq e1
    obtain rfl := asBool_eq e2
    rcases binX_ok hk hx hv with ⟨j, p, q, rfl, rfl, _, _, h4⟩ | ⟨p, q, rfl, rfl, h4⟩
    · cases (show some (AV.bool (ieq p q)) = some (AV.bool b) from h4)
      cases D <;> simp [IsKey] at hkey
      subst hkey
      simp [Instr.sameNow, ieq_eq]
    · cases (show some (AV.bool (seq (bytesOf p) (bytesOf q))) = some (AV.bool b) from h4)
      cases D <;> simp [IsKey] at hkey
      simp only [Instr.sameNow]
      congr 1
      rw [Bool.eq_iff_iff, bytes_beq, seq_iff]
      exact ⟨fun h => by rw [h], fun h => bytes_inj h⟩
theorem lookK_ok {d : TD} {D : TypeDesc} {k : AV} {K : Value} (h : keyL d k = true) (hd : DR d D) (hk : RV ρ k K) : ∀ {l : List (AV × AV)} {x : List MapEntry} (i : Nat) {r : Option AV}, RVp ρ l x → lookK k l = some r →
    (r = none ∧ Instr.findNow D K x i = some none) ∨ ∃ v j u, r = some v ∧ Instr.findNow D K x i = some (some (j, u)) ∧ RV ρ v u
  | _, _, i, r, .nil, e => by cases e; exact .inl ⟨rfl, rfl⟩
  | _, _, i, r, .cons (k := y) (v := v) (l := l) h1 h2 h3, e => by
    obtain ⟨b, hb, e1⟩ := oE_none_eq (show oE (ceqK k y) none (fun b => bE b (some (some v)) (lookK k l)) = some r from e)
    have hn := ceqK_now h hd hk h1 hb
    cases b with
    | true =>
      cases e1
      exact .inr ⟨v, i, _, rfl, by simp [Instr.findNow, hn], h2⟩
    | false =>
      rcases lookK_ok h hd hk (i + 1) h3 (show lookK k l = some r from e1) with ⟨h4, h5⟩ | ⟨v', j, u, h4, h5, h6⟩
      · exact .inl ⟨h4, by simp [Instr.findNow, hn, h5]⟩
      · exact .inr ⟨v', j, u, h4, by simp [Instr.findNow, hn, h5], h6⟩
theorem setK_ok {d : TD} {D : TypeDesc} {k v : AV} {K V : Value} (h : keyD d k = true) (hd : DR d D) (hk : RV ρ k K) (hv : RV ρ v V) (clock : Nat) : ∀ {l : List (AV × AV)} {x : List MapEntry} (i : Nat) {r : List (AV × AV)}, RVp ρ l x → setK k v l = some r →
    (Instr.findNow D K x i = some none ∧ RVp ρ r (x ++ [{ key := K, val := V, born := clock }])) ∨
      ∃ j u, Instr.findNow D K x i = some (some (i + j, u)) ∧ (x[j]?).map (·.key) = some K ∧ RVp ρ r (x.modify j fun e => { e with key := K, val := V })
  | _, _, i, r, .nil, e => by cases e; exact .inl ⟨rfl, .cons hk hv .nil⟩
  | _, _, i, r, .cons (k := y) (v := v') (e := en) (l := l) (x := x) h1 h2 h3, e => by
    obtain ⟨b, hb, e1⟩ := oE_none_eq (show oE (ceq k y) none (fun b => bE b (some ((k, v) :: l)) (oE (setK k v l) none (fun q => some ((y, v') :: q)))) = some r from e)
    obtain ⟨hn, hkey⟩ := ceq_now h hd hk h1 hb
    cases b with
    | true =>
      cases e1
      refine .inr ⟨0, en.val, by simp [Instr.findNow, hn], by simp [hkey rfl], ?_⟩
      rw [List.modify_zero_cons]
      exact .cons hk hv h3
    | false =>
      obtain ⟨q, hq, e2⟩ := oE_none_eq (show oE (setK k v l) none (fun q => some ((y, v') :: q)) = some r from e1)
      cases e2
      rcases setK_ok h hd hk hv clock (i + 1) h3 hq with ⟨h4, h5⟩ | ⟨j, u, h4, h5, h6⟩
      · exact .inl ⟨by simp [Instr.findNow, hn, h4], .cons h1 h2 h5⟩
      · refine .inr ⟨j + 1, u, by simp [Instr.findNow, hn, h4]; omega, by simpa using h5, ?_⟩
        rw [List.modify_succ_cons]
        exact .cons h1 h2 h6
theorem RVp.length : ∀ {l : List (AV × AV)} {x : List MapEntry}, RVp ρ l x → l.length = x.length
  | _, _, .nil => rfl
  | _, _, .cons _ _ h => by simp [h.length]
theorem amap_eq {h : Tr AB} {n : Nat} {es : List (AV × AV)} (e : entries h (.map n) = some es) : h.get n = some (.amap es) := by
  obtain ⟨b, hb, e1⟩ := oE_none_eq (show oE (h.get n) none _ = some es from e)
  cases b <;> simp at e1
  subst e1; exact hb
/-- a map as it lies in the world -/
theorem amap_ok {n : Nat} {es : List (AV × AV)} {X : Value} (rh : RH B ρ G w) (hG : G n = some (.amap es)) (hx : RV ρ (.map n) X) :
    ∃ L x clock, ρ n = some L ∧ X = .map (some L.blk) ∧ B ≤ L.blk ∧ w.heap[L.blk]? = some (.map x clock) ∧ RVp ρ es x.toList := by
  obtain ⟨L, h1, h2, x, clock, h3, h4⟩ := rh.blk n _ hG
  cases hx with
  | map n M h => rw [h1] at h; cases h; exact ⟨L, x, clock, h1, rfl, h2, h3, h4⟩
theorem zeroV_ok {t : Nat} {ti : TI} {v : AV} (hT : TyOK P t ti) (e : zeroV ti = some v) : ∃ u, (zeroValue t).run P w = .ok u w ∧ RV ρ v u := by
  obtain ⟨z, hz, hag, hzr⟩ := hT.zero
  refine ⟨z, hzr w, ?_⟩
  unfold zeroV at e
  have hz := hz ρ
  cases hb : ti.agg with
  | true =>
    rw [hb, bE_true] at e
    cases e
    rw [hb] at hag
    cases z <;> simp [aggV] at hag
    exact .agg _ _ hz
  | false =>
    rw [hb, bE_false, nth_eq] at e
    rw [hb] at hag
    obtain ⟨u, hu, hr⟩ := hz.get 0 e
    cases z <;> first | (simp [aggV] at hag; done) | (simp [Value.cells] at hu; subst hu; exact hr)
theorem withOk_rv {ok b : Bool} {v : AV} {u : Value} (h : RV ρ v u) : RV ρ (withOk ok v b) (if ok then .tuple #[u, .bool b] else u) := by
  cases ok with
  | true => exact .tup _ _ (.cons h (.cons (.bool b) .nil))
  | false => exact h
theorem lookup_ok (hE : EnvOK P E) {s : St} {t : Nat} {ti : TI} {x k v : AV} {X K : Value} {ok : Bool} {h : Tr AB} {c : Nat} {tl : List Nat} (rh : RH B ρ G w) (hx : RV ρ x X) (hk : RV ρ k K)
    (ht : E.ty.get t = some ti) (e : lookup E s x k ok ti.d = .ok v h c tl) (hp : ∀ n ∈ refsV x, ∀ b, s.h.get n = some b → G n = some b) :
    ∃ u, (Instr.lookup t X K ok).run P w = .ok u w ∧ Aft B ρ G w s v h c tl u ρ G w := by
  obtain ⟨d, hd, hr, _, _⟩ := (hE.ty _ _ ht).und
  unfold lookup at e
  split at e
  · next kt et hkt =>
    rw [hkt] at hr
    obtain ⟨j, f, rfl⟩ : ∃ j f, d = .map j f := by cases d <;> simp [DR] at hr ⊢
    simp only [DR] at hr
    obtain ⟨rfl, rfl⟩ := hr
    obtain ⟨ki, hki, e1⟩ := oE_no_eq e
    obtain ⟨hkd, e2⟩ := bE_no_eq e1
    obtain ⟨ei, hei, e3⟩ := oE_no_eq e2
    obtain ⟨es, hes, e4⟩ := oE_no_eq e3
    obtain ⟨r, hlr, e5⟩ := oE_no_eq e4
    obtain ⟨D, hD, hDr, _, _⟩ := (hE.ty _ _ hki).und
    have hkey := keyL_ok hkd hDr hk
    have main : ∀ (xs : Array MapEntry), RVp ρ es xs.toList → (Instr.checkKey xs.isEmpty 10000 j K).run P w = .ok () w ∧
        ((∃ z, (Instr.findKey j K xs.toList).run P w = .ok none w ∧ (zeroValue f).run P w = .ok z w ∧ Aft B ρ G w s v h c tl (if ok then .tuple #[z, .bool false] else z) ρ G w) ∨
          ∃ q z, (Instr.findKey j K xs.toList).run P w = .ok (some (q, z)) w ∧ Aft B ρ G w s v h c tl (if ok then .tuple #[z, .bool true] else z) ρ G w) := by
      intro xs hxs
      refine ⟨run_checkKey (P := P) (w := w) hD hkey xs.isEmpty 9999, ?_⟩
      rcases lookK_ok hkd hDr hk 0 hxs hlr with ⟨rfl, hf⟩ | ⟨v', q, u, rfl, hf, hvu⟩
      · obtain ⟨zv, hzv, e6⟩ := oE_no_eq (show oE (zeroV ei) .no (fun v => Go.Ab.pure s (withOk ok v false)) = .ok v h c tl from e5)
        obtain ⟨u, hu, hru⟩ := zeroV_ok (w := w) (ρ := ρ) (hE.ty _ _ hei) hzv
        rw [pure_eq] at e6
        cases e6
        exact .inl ⟨u, run_findKey (w := w) hD hf, hu, Aft.pure rh (withOk_rv hru)⟩
      · rw [oE_some, pure_eq] at e5
        cases e5
        exact .inr ⟨q, u, run_findKey (w := w) hD hf, Aft.pure rh (withOk_rv hvu)⟩
    cases x <;> try (cases hes; done)
    · cases hx
      cases hes
      obtain ⟨h0, ⟨z, h1, h2, h3⟩ | ⟨q, z, h1, h3⟩⟩ := main #[] .nil
      · refine ⟨_, ?_, h3⟩
        simp only [Instr.lookup, Sem.run_bind, run_underlying hd, Result.andThen_ok, Sem.run_pure, h0, h1, h2]
      · refine ⟨_, ?_, h3⟩
        simp only [Instr.lookup, Sem.run_bind, run_underlying hd, Result.andThen_ok, Sem.run_pure, h0, h1]
    · next n =>
      have hg := amap_eq hes
      have hG := hp n (by simp [refsV, asPtr, oE]) _ hg
      obtain ⟨L, x, clock, _, rfl, _, hh, hxs⟩ := amap_ok rh hG hx
      have hgo := Go.MapKept.run_getObj_map (P := P) hh
      obtain ⟨h0, ⟨z, h1, h2, h3⟩ | ⟨q, z, h1, h3⟩⟩ := main x hxs
      · refine ⟨_, ?_, h3⟩
        simp only [Instr.lookup, Sem.run_bind, run_underlying hd, Result.andThen_ok, Sem.run_pure, hgo, h0, h1, h2]
      · refine ⟨_, ?_, h3⟩
        simp only [Instr.lookup, Sem.run_bind, run_underlying hd, Result.andThen_ok, Sem.run_pure, hgo, h0, h1]
  · cases e
/-- one object of the world turned -/
theorem setObj_other {L : Nat} (o : Obj) (w : World) {b : Nat} (h : b ≠ L) : ({ w with heap := w.heap.setIfInBounds L o } : World).heap[b]? = w.heap[b]? := by
  simp [Ne.symm h]
theorem setObj_below {L : Nat} (o : Obj) (hL : B ≤ L) : Below B w { w with heap := w.heap.setIfInBounds L o } :=
  ⟨rfl, rfl, rfl, by simp, fun k hk => setObj_other o w (by omega)⟩
theorem obj_upd {n : Nat} {L : Loc} {a b : AB} {o o' : Obj} (rh : RH B ρ G w) (hG : G n = some a) (hL : ρ n = some L) (hown : a.own = true) (hhas : ∀ i, a.has L i) (ho : w.heap[L.blk]? = some o)
    (h1 : ∀ c e r, o ≠ .cells c e r) (h2 : ∀ c e r, o' ≠ .cells c e r)
    (hb : RB B ρ { w with heap := w.heap.setIfInBounds L.blk o' } L b) : RH B ρ (upF G n (some b)) { w with heap := w.heap.setIfInBounds L.blk o' } := by
  have hlt : L.blk < w.heap.size := rh.inn n L hL
  have hn : ({ w with heap := w.heap.setIfInBounds L.blk o' } : World).heap[L.blk]? = some o' := by simp [hlt]
  refine rh.upd hG hL hown (by simp) (fun b hb => setObj_other _ _ hb) (.inr ⟨0, hhas 0⟩) (fun i hi => absurd (hhas i) hi) (fun x => ?_) hb (fun i _ => hhas i)
  unfold World.frozen?
  by_cases hab : x.block = L.blk
  · rw [hab, hn, ho]
    cases o <;> cases o' <;> first | rfl | exact absurd rfl (h1 _ _ _) | exact absurd rfl (h2 _ _ _)
  · rw [setObj_other _ _ hab]
theorem mapUpd_ok (hE : EnvOK P E) {s : St} {t : Nat} {ti : TI} {x k y v : AV} {X K Y : Value} {h : Tr AB} {c : Nat} {tl : List Nat} (rh : RH B ρ G w) (hx : RV ρ x X) (hk : RV ρ k K) (hy : RV ρ y Y)
    (ht : E.ty.get t = some ti) (e : mapUpd E s k y ti.d x = .ok v h c tl) (hp : ∀ n ∈ refsV x, ∀ b, s.h.get n = some b → G n = some b) :
    ∃ w' G', (Instr.mapUpdate t X K Y).run P w = .ok () w' ∧ Aft B ρ G w s v h c tl undef ρ G' w' := by
  obtain ⟨d, hd, hr, _, _⟩ := (hE.ty _ _ ht).und
  generalize hdd : ti.d = dd at *
  unfold mapUpd at e
  split at e
  · next kt et n =>
    obtain ⟨j, f, rfl⟩ : ∃ j f, d = .map j f := by cases d <;> simp [DR] at hr ⊢
    simp only [DR] at hr
    obtain ⟨rfl, rfl⟩ := hr
    obtain ⟨ki, hki, e1⟩ := oE_no_eq e
    obtain ⟨hkd, e2⟩ := bE_no_eq e1
    obtain ⟨es, hes, e4⟩ := oE_no_eq e2
    obtain ⟨r, hlr, e5⟩ := oE_no_eq e4
    rw [upd_eq] at e5
    cases e5
    obtain ⟨D, hD, hDr, _, _⟩ := (hE.ty _ _ hki).und
    have hkey := keyD_ok hkd hDr hk
    have hg := amap_eq hes
    have hG := hp n (by simp [refsV, asPtr, oE]) _ hg
    obtain ⟨L, xs, clock, hL, rfl, hB, hh, hxs⟩ := amap_ok rh hG hx
    have hgo := Go.MapKept.run_getObj_map (P := P) hh
    have hck := run_checkKey (P := P) (w := w) hD hkey false 9999
    have done : ∀ (o' : Obj) (ys : Array MapEntry) (cl : Nat), o' = .map ys cl → RVp ρ r ys.toList →
        Aft B ρ G w s (.tup []) (s.h.set n (.amap r)) s.c [n] undef ρ (upF G n (some (.amap r))) { w with heap := w.heap.setIfInBounds L.blk o' } := by
      intro o' ys cl ho' hys
      subst ho'
      have hlt : L.blk < w.heap.size := rh.inn n L hL
      exact Aft.upd (obj_upd rh hG hL rfl (fun _ => trivial) hh (by simp) (by simp) ⟨hB, ys, cl, by simp [hlt], hys⟩) (.tup [] #[] .nil) (setObj_below _ hB)
    rcases setK_ok hkd hDr hk hy clock 0 hxs hlr with ⟨hf, hrv⟩ | ⟨q, u, hf, hkq, hrv⟩
    · refine ⟨_, _, ?_, done _ (xs.push { key := K, val := Y, born := clock }) (clock + 1) rfl (by simpa using hrv)⟩
      simp only [Instr.mapUpdate, Sem.run_bind, run_underlying hd, Result.andThen_ok, hgo, hck, run_findKey (w := w) hD hf, Go.MapKept.run_setObj_map (P := P) _ hh]
    · refine ⟨_, _, ?_, done _ (xs.modify q fun e => { e with key := K, val := Y }) clock rfl (by simpa using hrv)⟩
      have hq : ((xs[q]?).map (·.key)).getD K = K := by rw [← Array.getElem?_toList, hkq]; rfl
      simp only [Instr.mapUpdate, Sem.run_bind, run_underlying hd, Result.andThen_ok, hgo, hck, run_findKey (w := w) hD hf, Nat.zero_add, hq, run_keyThatStays (P := P) (w := w) hkey, Go.MapKept.run_setObj_map (P := P) _ hh]
  · cases e
end
end Go.Ab
