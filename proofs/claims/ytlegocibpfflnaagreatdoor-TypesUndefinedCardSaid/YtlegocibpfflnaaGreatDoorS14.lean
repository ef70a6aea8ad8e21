/- A part of an evaluator of the program's operations over values that are known whole or in part, and of the proof that what it answers holds of the program's run. No condition. -/
import Derived.Test.YtlegocibpfflnaaGreatDoorS13
namespace Go.Ab
open Go.RowKit (Below)
section
variable {P : Program} {E : Env} {B : Nat} {ρ : Rho} {G : Hp} {w : World}

/-! Strings by runes. -/
theorem bytesOf_get {S : ByteArray} {p b : Nat} (h : (bytesOf S)[p]? = some b) : p < S.size ∧ (S.get! p).toNat = b := by
  simp only [bytesOf, List.getElem?_map, Array.getElem?_toList, Option.map_eq_some_iff] at h
  obtain ⟨x, hx, rfl⟩ := h
  have hp : p < S.data.size := (Array.getElem?_eq_some_iff.1 hx).1
  refine ⟨hp, ?_⟩
  obtain ⟨d⟩ := S
  show (d[p]!).toNat = _
  rw [Array.getElem!_eq_getD, Array.getD_eq_getD_getElem?]
  rw [show d[p]? = some x from hx]
  rfl
theorem rangeV_ok (hE : EnvOK P E) {s : St} {t : Nat} {ti : TI} {x v : AV} {X : Value} {h : Tr AB} {c : Nat} {tl : List Nat} (rh : RH B ρ G w) (hB : B ≤ w.heap.size) (hx : RV ρ x X)
    (ht : E.ty.get t = some ti) (e : rangeV s ti.d x = .ok v h c tl) (fr : ∀ n, s.c ≤ n → n < c → ρ n = none) :
    ∃ u w' ρ' G', (Instr.range t X).run P w = .ok u w' ∧ Aft B ρ G w s v h c tl u ρ' G' w' := by
  obtain ⟨d, hd, hr, _, _⟩ := (hE.ty _ _ ht).und
  generalize hdd : ti.d = dd at *
  unfold rangeV at e
  split at e
  · next l =>
    obtain rfl : d = .string := by cases d <;> simp [DR] at hr ⊢
    rw [newO_eq] at e
    cases e
    have fr' := fr s.c (Nat.le_refl _) (Nat.lt_succ_self _)
    cases hx with
    | str S =>
      refine ⟨_, _, _, _, ?_, Aft.new rh hB fr' (.stringIter S 0) 0 (u := .pointer (some ⟨w.heap.size, 0, none⟩)) ?_ ⟨hB, rfl, S, (Go.MapKept.heap_alloc w _).1, rfl⟩⟩
      · simp only [Instr.range, Sem.run_bind, run_underlying hd, Result.andThen_ok, Sem.run_pure]
        rfl
      · have := RV.ptr (ρ := upF ρ s.c (some ⟨w.heap.size, 0, 0⟩)) s.c 0 _ (upF_same _ _ _)
        simpa [Loc.adr, ptr0] using this
  · cases e
theorem next_ok {s : St} {x v : AV} {X : Value} {str : Bool} {T : TypeId} {h : Tr AB} {c : Nat} {tl : List Nat} (rh : RH B ρ G w) (hx : RV ρ x X)
    (e : next s str x = .ok v h c tl) (hp : ∀ n ∈ refsV x, ∀ b, s.h.get n = some b → G n = some b) :
    ∃ u w' G', (Instr.next X str T).run P w = .ok u w' ∧ Aft B ρ G w s v h c tl u ρ G' w' := by
  unfold next at e
  split at e
  · next n =>
    obtain ⟨rfl, e1⟩ := bE_no_eq e
    obtain ⟨b, hb, e2⟩ := oE_no_eq e1
    split at e2
    · next l p =>
      have hG := hp n (by simp [refsV, asPtr, oE]) _ hb
      obtain ⟨L, hL, hBL, hbase, S, hh, hS⟩ := rh.blk n _ hG
      subst hS
      cases hx with
      | ptr n o M hM =>
        rw [hL] at hM; cases hM
        have hlt : L.blk < w.heap.size := rh.inn n L hL
        have hgo : (getObj L.blk).run P w = .ok (.stringIter S p) w := by simp [getObj, Sem.run, hh]
        have hX : (L.adr 0) = ⟨L.blk, 0, none⟩ := by simp [Loc.adr, hbase]
        unfold next1 at e2
        rw [nth_eq] at e2
        cases hq : (bytesOf S)[p]? with
        | none =>
          rw [hq, oE_none] at e2
          obtain ⟨h1, e3⟩ := bE_no_eq e2
          rw [pure_eq] at e3
          cases e3
          have h2 := beq_true h1
          rw [len_eq, bytesOf_length] at h2
          refine ⟨.tuple #[.bool false], w, G, ?_, Aft.pure rh (.tup _ _ (.cons (.bool false) .nil))⟩
          rw [hX]
          simp only [Instr.next, Sem.run_bind, hgo, Result.andThen_ok]
          rw [if_neg (by omega)]
          rfl
        | some b =>
          rw [hq, oE_some] at e2
          obtain ⟨h1, e3⟩ := bE_no_eq e2
          rw [upd_eq] at e3
          cases e3
          have h2 : b < 128 := ble_true h1
          obtain ⟨h3, h4⟩ := bytesOf_get hq
          have hdec : Utf8.decode S p = (b, 1) := by
            unfold Utf8.decode
            simp only [Nat.add_zero, h4]
            rw [if_pos (by simpa using h2)]
          have hset : (setObj L.blk (.stringIter S (p + 1))).run P w = .ok () { w with heap := w.heap.setIfInBounds L.blk (.stringIter S (p + 1)) } := by
            simp [setObj, Sem.run, hh]
          refine ⟨.tuple #[.bool true, goInt p, .int .i32 b], _, _, ?_, Aft.upd (obj_upd (o' := .stringIter S (p + 1)) (b := .siter (bytesOf S) (p + 1)) rh hG hL rfl (fun _ => trivial) hh (by simp) (by simp) ⟨hBL, hbase, S, by simp [hlt], rfl⟩)
            (.tup _ _ (.cons (.bool true) (.cons (.int _ _) (.cons (.int _ _) .nil)))) (setObj_below _ hBL)⟩
          rw [hX]
          simp only [Instr.next, Sem.run_bind, hgo, Result.andThen_ok]
          rw [if_pos h3, hdec]
          simp only [Sem.run_bind, hset, Result.andThen_ok]
          rfl
    · cases e2
  · cases e

/-! Lengths, the greatest, the least. -/
theorem lenOf_ok (hE : EnvOK P E) {s : St} {t T : Nat} {ti : TI} {x v : AV} {X : Value} (rh : RH B ρ G w) (hx : RV ρ x X)
    (ht : E.ty.get t = some ti) (e : lenOf s ti.d x = some v) (hp : ∀ n ∈ refsV x, ∀ b, s.h.get n = some b → G n = some b) :
    ∃ u, (Builtin.len_ #[t] T #[X]).run P w = .ok u w ∧ RV ρ v u := by
  obtain ⟨d, hd, hr, _, _⟩ := (hE.ty _ _ ht).und
  generalize hdd : ti.d = dd at *
  have fin : ∀ {u : Value} {n : Nat}, u = goInt n → RV ρ (i64 n) u := by rintro u n rfl; exact .int _ _
  unfold lenOf at e
  split at e
  · obtain rfl : d = .string := by cases d <;> simp [DR] at hr ⊢
    cases e
    cases hx with
    | str S => exact ⟨_, by simp only [Builtin.len_, List.getElem?_toArray, List.getElem?_cons_zero, Sem.run_bind, run_underlying hd, Result.andThen_ok]; rfl, by rw [len_eq, bytesOf_length]; exact fin rfl⟩
  · obtain rfl : d = .string := by cases d <;> simp [DR] at hr ⊢
    cases e
    cases hx with
    | snot ne lo hi S h1 h2 h3 =>
      refine ⟨_, by simp only [Builtin.len_, List.getElem?_toArray, List.getElem?_cons_zero, Sem.run_bind, run_underlying hd, Result.andThen_ok]; rfl, .rng _ _ _ _ (fun l hl => ?_) (fun l hl => ?_)⟩
      · obtain ⟨a, ha, e2⟩ := oE_none_eq hl
        cases e2; have := h2 a ha; simp; omega
      · obtain ⟨a, ha, e2⟩ := oE_none_eq hl
        cases e2; have := h3 a ha; simp; omega
  · obtain ⟨f, rfl⟩ : ∃ f, d = .slice f := by cases d <;> simp [DR] at hr ⊢
    cases e; cases hx
    exact ⟨_, by simp only [Builtin.len_, List.getElem?_toArray, List.getElem?_cons_zero, Sem.run_bind, run_underlying hd, Result.andThen_ok]; rfl, fin rfl⟩
  · obtain ⟨f, rfl⟩ : ∃ f, d = .slice f := by cases d <;> simp [DR] at hr ⊢
    cases e
    cases hx <;> exact ⟨_, by simp only [Builtin.len_, List.getElem?_toArray, List.getElem?_cons_zero, Sem.run_bind, run_underlying hd, Result.andThen_ok]; rfl, fin rfl⟩
  · obtain ⟨m, f, rfl⟩ : ∃ m f, d = .array m f := by cases d <;> simp [DR] at hr ⊢
    simp only [DR] at hr
    obtain ⟨rfl, _⟩ := hr
    cases e
    exact ⟨_, by simp only [Builtin.len_, List.getElem?_toArray, List.getElem?_cons_zero, Sem.run_bind, run_underlying hd, Result.andThen_ok]; rfl, fin rfl⟩
  · obtain ⟨m, f, rfl⟩ : ∃ m f, d = .map m f := by cases d <;> simp [DR] at hr ⊢
    cases e; cases hx
    exact ⟨_, by simp only [Builtin.len_, List.getElem?_toArray, List.getElem?_cons_zero, Sem.run_bind, run_underlying hd, Result.andThen_ok]; rfl, fin rfl⟩
  · next n =>
    obtain ⟨m, f, rfl⟩ : ∃ m f, d = .map m f := by cases d <;> simp [DR] at hr ⊢
    obtain ⟨es, hes, e1⟩ := oE_none_eq e
    cases e1
    have hg := amap_eq hes
    have hG := hp n (by simp [refsV, asPtr, oE]) _ hg
    obtain ⟨L, xs, clock, hL, rfl, hB, hh, hxs⟩ := amap_ok rh hG hx
    refine ⟨_, by simp only [Builtin.len_, List.getElem?_toArray, List.getElem?_cons_zero, Sem.run_bind, run_underlying hd, Result.andThen_ok, Go.MapKept.run_getObj_map (P := P) hh]; rfl, by rw [len_eq, hxs.length]; exact fin (by simp)⟩
  · cases e
theorem maxs_ok {le : Int → Int → Bool} {f : Value → Value → Sem Value} (hf : ∀ k a j b, f (.int k a) (.int j b) = Pure.pure (.int k (if le a b then b else a))) :
    ∀ {l : List AV} {xs : List Value} {a v : AV} {A : Value}, RVs ρ l xs → RV ρ a A → maxs le l a = some v → ∃ u, (xs.foldlM f A).run P w = .ok u w ∧ RV ρ v u
  | _, _, a, v, A, .nil, h, e => by cases e; exact ⟨A, rfl, h⟩
  | _, _, a, v, A, .cons (v := x) (l := l) h1 h2, h, e => by
    obtain ⟨m, hm, e1⟩ := oE_none_eq (show oE (max1 le a x) none (maxs le l) = some v from e)
    unfold max1 at hm
    split at hm
    · next k p j q =>
      cases hm; cases h; cases h1
      have hr : RV ρ (.int k (bE (le p q) q p)) (.int k (if le p q then q else p)) := by
        cases le p q <;> exact .int _ _
      obtain ⟨u, h3, h4⟩ := maxs_ok hf h2 hr e1
      refine ⟨u, ?_, h4⟩
      rw [List.foldlM_cons, hf]
      simpa using h3
    · cases hm
theorem max_ok {l : List AV} {xs : Array Value} {a v : AV} {A : Value} {tt : Array TypeId} {T : TypeId} (h1 : RVs ρ (a :: l) xs.toList) (e : maxs ilt l a = some v) :
    ∃ u, (Builtin.max_ tt T xs).run P w = .ok u w ∧ RV ρ v u := by
  unfold Builtin.max_
  generalize xs.toList = ys at h1
  cases h1 with
  | cons h1 h2 =>
    exact maxs_ok (fun k a j b => by
      simp only [Builtin.max2, ilt_eq, decide_eq_true_eq]) h2 h1 e
theorem min_ok {l : List AV} {xs : Array Value} {a v : AV} {A : Value} {tt : Array TypeId} {T : TypeId} (h1 : RVs ρ (a :: l) xs.toList) (e : maxs ige l a = some v) :
    ∃ u, (Builtin.min_ tt T xs).run P w = .ok u w ∧ RV ρ v u := by
  unfold Builtin.min_
  generalize xs.toList = ys at h1
  cases h1 with
  | cons h1 h2 =>
    exact maxs_ok (fun k a j b => by
      simp only [Builtin.min2, ige, ilt_eq, decide_eq_true_eq]) h2 h1 e
end
end Go.Ab
