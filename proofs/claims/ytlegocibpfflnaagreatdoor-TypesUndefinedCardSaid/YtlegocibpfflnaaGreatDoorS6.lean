/- A part of an evaluator of the program's operations over values that are known whole or in part, and of the proof that what it answers holds of the program's run. No condition. -/
import Derived.Test.YtlegocibpfflnaaGreatDoorS5
namespace Go.Ab
open Go.RowKit (Below)
section
variable {P : Program} {E : Env} {B : Nat} {ρ : Rho} {G : Hp} {w : World}

/-! Aggregates. -/
theorem fold_set (off : Nat) : ∀ (xs : List Value) (k : Nat) (C : Array Value) (i : Nat), off + k + xs.length ≤ C.size →
    ((xs.zipIdx k).foldl (fun (cs : Array Value) (p : Value × Nat) => cs.setIfInBounds (off + p.2) p.1) C)[i]? = if off + k ≤ i ∧ i < off + k + xs.length then xs[i - (off + k)]? else C[i]?
  | [], k, C, i, h => by simp; omega
  | x :: xs, k, C, i, h => by
    simp only [List.zipIdx_cons, List.foldl_cons]
    rw [fold_set off xs (k + 1) _ i (by simp at h ⊢; omega)]
    simp at h
    by_cases h1 : off + (k + 1) ≤ i ∧ i < off + (k + 1) + xs.length
    · rw [if_pos h1, if_pos (by simp; omega)]
      rw [show i - (off + k) = (i - (off + (k + 1))) + 1 by omega]; rfl
    · rw [if_neg h1, Array.getElem?_setIfInBounds]
      by_cases h2 : off + k = i
      · rw [if_pos h2, if_pos (by omega), if_pos (by simp; omega)]
        subst h2; simp
      · rw [if_neg h2, if_neg (by simp; omega)]
theorem fold_set_rv {off : Nat} {xs : Array Value} {vs : List AV} {C : Array Value} {c c' : List AV} (hx : RVs ρ vs xs.toList) (hc : RVs ρ c C.toList) (hp : put vs off c = some c') :
    RVs ρ c' (xs.zipIdx.foldl (fun (cs : Array Value) (p : Value × Nat) => cs.setIfInBounds (off + p.2) p.1) C).toList := by
  have hb := (put_eq _ _ _ _ hp).2
  have hl := put_length hp
  have hxl := hx.length
  have hcl := hc.length
  simp at hxl hcl
  have hget : ∀ i, (xs.zipIdx.foldl (fun (cs : Array Value) (p : Value × Nat) => cs.setIfInBounds (off + p.2) p.1) C)[i]? = if off ≤ i ∧ i < off + xs.size then xs[i - off]? else C[i]? := by
    intro i
    have := fold_set off xs.toList 0 C i (by simp; omega)
    rw [← Array.foldl_toList, Array.toList_zipIdx]
    simpa using this
  refine RVs.of_get ?_ fun i v hv => ?_
  · have hsz : ∀ (l : List (Value × Nat)) (C : Array Value), (l.foldl (fun (cs : Array Value) (p : Value × Nat) => cs.setIfInBounds (off + p.2) p.1) C).size = C.size := by
      intro l
      induction l with
      | nil => exact fun _ => rfl
      | cons a l ih => intro C; rw [List.foldl_cons, ih]; simp
    have h1 : (xs.zipIdx.foldl (fun (cs : Array Value) (p : Value × Nat) => cs.setIfInBounds (off + p.2) p.1) C).toList.length = C.size := by
      rw [← Array.foldl_toList, Array.length_toList, hsz]
    show c'.length = _
    omega
  · rw [put_get hp] at hv
    rw [Array.getElem?_toList, hget]
    by_cases h : off ≤ i ∧ i < off + vs.length
    · rw [if_pos h] at hv
      rw [if_pos (by omega)]
      obtain ⟨u, hu, hr⟩ := hx.get _ hv
      exact ⟨u, by simpa using hu, hr⟩
    · rw [if_neg h] at hv
      rw [if_neg (by omega)]
      obtain ⟨u, hu, hr⟩ := hc.get _ hv
      exact ⟨u, by simpa using hu, hr⟩
theorem fills_ok {place placeC : Nat → Option (Nat × Nat)} (hpl : ∀ i p, place i = some p → placeC i = some p) : ∀ (l : List (Nat × AV)) (L : List (Nat × Value)) (c c' : List AV) (C : Array Value),
    l.map (·.1) = L.map (·.1) → RVs ρ (l.map (·.2)) (L.map (·.2)) → RVs ρ c C.toList → fills place l c = some c' → ∃ C', Instr.fill placeC C L = some C' ∧ RVs ρ c' C'.toList
  | [], [], c, c', C, _, _, hc, e => by cases e; exact ⟨C, rfl, hc⟩
  | [], _ :: _, _, _, _, h, _, _, _ => by simp at h
  | _ :: _, [], _, _, _, h, _, _, _ => by simp at h
  | (i, v) :: l, (j, u) :: L, c, c', C, h, hv, hc, e => by
    simp at h
    obtain ⟨rfl, h⟩ := h
    cases hv with
    | cons h1 h2 =>
      obtain ⟨c1, hc1, e1⟩ := oE_none_eq (show oE (oE (place i) none (fill1 c v)) none (fills place l) = some c' from e)
      obtain ⟨⟨off, size⟩, hp, e2⟩ := oE_none_eq hc1
      obtain ⟨cs, hcs, e3⟩ := oE_none_eq (show oE (cellsO v) none (fun cs => bE (Nat.beq (len cs) size) (put cs off c) none) = some c1 from e2)
      obtain ⟨hl, e4⟩ := bE_none_eq e3
      have hx := cellsO_rv h1 hcs
      have hl' := beq_true hl
      have hxl := hx.length
      rw [len_eq] at hl'
      simp at hxl
      have hb := (put_eq _ _ _ _ e4).2
      have hcl := hc.length
      simp at hcl
      obtain ⟨C', h3, h4⟩ := fills_ok hpl l L c1 c' _ h h2 (fold_set_rv hx hc e4) e1
      refine ⟨C', ?_, h4⟩
      simp only [Instr.fill, hpl _ _ hp]
      rw [if_neg (by simp; omega)]
      exact h3
theorem mapM_run {α β : Type} {P : Program} {f : α → Sem β} {g : α → β} {w : World} : ∀ (l : List α), (∀ a ∈ l, (f a).run P w = .ok (g a) w) → (l.mapM f).run P w = .ok (l.map g) w
  | [], _ => rfl
  | a :: l, h => by
    rw [List.mapM_cons]
    simp [h a (by simp), mapM_run l (fun b hb => h b (by simp [hb]))]
theorem mapM_runA {α β : Type} {P : Program} {f : α → Sem β} {g : α → β} {w : World} (l : Array α) (h : ∀ a ∈ l, (f a).run P w = .ok (g a) w) : (l.mapM f).run P w = .ok (l.map g) w := by
  rw [Array.mapM_eq_mapM_toList]
  simp only [Sem.run_map, mapM_run l.toList (fun a ha => h a (by simpa using ha)), Result.andThen_ok]
  congr 1
  apply Array.toList_inj.1
  simp
theorem fieldsOf_eq {ti : TI} {fs : List (Nat × Nat)} (e : fieldsOf ti = some fs) : ti.d = .st fs := by
  unfold fieldsOf at e
  split at e <;> cases e
  assumption
/-- what the tables say of a field -/
theorem fieldOf_ok (hE : EnvOK P E) {t f off : Nat} {fi : TI} (e : fieldOf E t f = some (off, fi)) :
    ∃ (gs : Array Field) (g : Field), P.underlying t = some (.struct gs) ∧ gs[f]? = some g ∧ g.offset = off ∧ TyOK P g.type fi := by
  obtain ⟨ti, ht, e1⟩ := oE_none_eq e
  obtain ⟨fs, hfs, e2⟩ := oE_none_eq e1
  obtain ⟨⟨ft, o⟩, hn, e3⟩ := oE_none_eq e2
  rw [pE_mk] at e3
  obtain ⟨fi', hfi, e4⟩ := oE_none_eq e3
  cases e4
  obtain ⟨d, h1, h2, _, _⟩ := (hE.ty _ _ ht).und
  rw [fieldsOf_eq hfs] at h2
  obtain ⟨gs, rfl⟩ : ∃ gs, d = .struct gs := by cases d <;> simp [DR] at h2 ⊢
  simp only [DR] at h2
  rw [nth_eq, h2] at hn
  simp at hn
  obtain ⟨g, hg, h3, h4⟩ := hn
  exact ⟨gs, g, h1, hg, h4, by rw [h3]; exact hE.ty _ _ hfi⟩
theorem buildA_ok (hE : EnvOK P E) {t : Nat} {ti : TI} (ht : E.ty.get t = some ti) {l : List (Nat × AV)} {L : Array (Nat × Value)} {v : AV}
    (h1 : l.map (·.1) = L.toList.map (·.1)) (h2 : RVs ρ (l.map (·.2)) (L.toList.map (·.2))) (e : buildA E t ti l = some v) : ∃ u, (Instr.build t L).run P w = .ok u w ∧ RV ρ v u := by
  have hT := hE.ty _ _ ht
  obtain ⟨z, hz, _, hzr⟩ := hT.zero
  obtain ⟨d, hd1, hd2, _, hd3⟩ := hT.und
  unfold buildA at e
  split at e
  · next fs hfs =>
    obtain ⟨c, hc, e1⟩ := oE_none_eq e
    cases e1
    rw [hfs] at hd2
    obtain ⟨gs, rfl⟩ : ∃ gs, d = .struct gs := by cases d <;> simp [DR] at hd2 ⊢
    simp only [DR] at hd2
    · have hsz : ∀ g ∈ gs, ((fun f : Field => do Pure.pure (f.offset, ← sizeOf f.type) : Field → Sem (Nat × Nat)) g).run P w = .ok (g.offset, P.cellsOf g.type) w := by
        intro g hg
        have := hT.fld fs hfs (g.type, g.offset) (by rw [hd2]; exact List.mem_map.2 ⟨g, by simpa using hg, rfl⟩)
        obtain ⟨i, hi⟩ := Option.isSome_iff_exists.1 this
        simp [run_sizeOf w hi]
      have hpl : ∀ i p, placeS E t i = some p → ((gs.map fun g => (g.offset, P.cellsOf g.type))[·]?) i = some p := by
        intro i p hp
        obtain ⟨⟨off, fi⟩, hf, e2⟩ := oE_none_eq hp
        cases (show some (off, fi.size) = some p from e2)
        obtain ⟨gs', g, h3, h4, h5, h6⟩ := fieldOf_ok hE hf
        rw [hd1] at h3; cases h3
        obtain ⟨f, _, _, h7, h8, _⟩ := h6.inf
        simp [h4, h5, Program.cellsOf, h7, h8]
      obtain ⟨C', h3, h4⟩ := fills_ok (ρ := ρ) hpl l L.toList ti.z c z.cells h1 h2 (hz ρ) hc
      refine ⟨.agg C', ?_, .agg _ _ h4⟩
      simp only [Instr.build, Sem.run_bind, hzr, hd3, Result.andThen_ok]
      erw [mapM_runA gs hsz]
      simp only [Result.andThen_ok]
      rw [h3]
      rfl
  · next n ety hd =>
    obtain ⟨sz, hsz, e1⟩ := oE_none_eq e
    obtain ⟨c, hc, e2⟩ := oE_none_eq e1
    cases e2
    rw [hd] at hd2
    obtain ⟨m, f, rfl⟩ : ∃ m f, d = .array m f := by cases d <;> simp [DR] at hd2 ⊢
    simp only [DR] at hd2
    · obtain ⟨rfl, rfl⟩ := hd2
      obtain ⟨ei, hei, e3⟩ := oE_none_eq hsz
      cases e3
      have := (hE.ty _ _ hei).size w
      obtain ⟨C', h3, h4⟩ := fills_ok (ρ := ρ) (place := placeA ei.size) (placeC := fun i => some (i * ei.size, ei.size)) (fun i p h => h) l L.toList ti.z c z.cells h1 h2 (hz ρ) hc
      refine ⟨.agg C', ?_, .agg _ _ h4⟩
      simp only [Instr.build, Sem.run_bind, hzr, hd3, Result.andThen_ok, this]
      rw [h3]
      rfl
  · cases e

theorem elemT_ok (hE : EnvOK P E) {t : Nat} {ei : TI} (e : elemT E t = some ei) : ∃ el, P.underlying t = some (.slice el) ∧ TyOK P el ei := by
  obtain ⟨ti, ht, e1⟩ := oE_none_eq e
  obtain ⟨el, hel, e2⟩ := oE_none_eq e1
  obtain ⟨d, h1, h2, _, _⟩ := (hE.ty _ _ ht).und
  have hd : ti.d = .sl el := by
    unfold elemI at hel
    split at hel <;> cases hel
    assumption
  rw [hd] at h2
  obtain ⟨f, rfl⟩ : ∃ f, d = .slice f := by cases d <;> simp [DR] at h2 ⊢
  simp only [DR] at h2
  subst h2
  exact ⟨f, h1, hE.ty _ _ e2⟩
theorem reps_rv {z : List AV} {Z : Array Value} (hz : RVs ρ z Z.toList) (n : Nat) : RVs ρ (reps z n) ((Array.range (n * Z.size)).map fun i => Z[i % Z.size]!).toList := by
  have hl := hz.length
  simp at hl
  refine RVs.of_get (by rw [reps_length]; simp [hl]) fun i v hv => ?_
  have hi : i < n * z.length := by rw [← reps_length z n]; exact (List.getElem?_eq_some_iff.1 hv).1
  have hpos : 0 < z.length := by
    rcases Nat.eq_zero_or_pos z.length with h | h
    · rw [h] at hi; simp at hi
    · exact h
  have hmod : i % z.length < z.length := Nat.mod_lt _ hpos
  have key : ∀ (n i : Nat) (v : AV), (reps z n)[i]? = some v → z[i % z.length]? = some v := by
    intro n
    induction n with
    | zero => intro i v h; simp [show reps z 0 = [] from rfl] at h
    | succ n ih =>
      intro i v h
      rw [show reps z (n + 1) = z ++ reps z n from rfl] at h
      rcases Nat.lt_or_ge i z.length with hlt | hge
      · rw [List.getElem?_append_left hlt] at h
        rw [Nat.mod_eq_of_lt hlt]; exact h
      · rw [List.getElem?_append_right hge] at h
        have := ih _ _ h
        rwa [← Nat.mod_eq_sub_mod hge] at this
  obtain ⟨u, hu, hr⟩ := hz.get _ (key n i v hv)
  refine ⟨u, ?_, hr⟩
  have : i % Z.size < Z.size := by rw [← hl]; exact hmod
  rw [hl] at hu
  simp only [Array.getElem?_toList] at hu
  simp only [Array.toList_map, Array.toList_range, List.getElem?_map, List.getElem?_range (show i < n * Z.size by rw [← hl]; exact hi), Option.map_some]
  rw [Array.getElem?_eq_getElem this] at hu
  rw [getElem!_pos Z _ this]
  exact hu
/-- the cells of a block that lies alone in a new block of the world's -/
theorem RB.fresh {ρ' : Rho} {k : BK} {K : Nat} {c : List AV} {C : Array Value} {t : TypeId} (hB : B ≤ w.heap.size)
    (h : ∀ (i : Nat) (v : AV), c[i]? = some v → ∃ u, C[i]? = some u ∧ RV ρ' v u) (hk : k = .fix ∨ (k = .el ∧ c.length ≤ K ∧ K ≤ C.size)) :
    RB B ρ' (w.alloc (.cells C t)) ⟨w.heap.size, 0, K⟩ (.cells k c) := by
  have hadr : ∀ i, (Loc.mk w.heap.size 0 K).adr i = ⟨w.heap.size, i, none⟩ := fun i => by simp [Loc.adr]
  refine ⟨fun i v hv => ?_, ?_⟩
  · obtain ⟨u, hu, hr⟩ := h i v hv
    exact ⟨u, by rw [hadr, World.cell?_alloc_new]; exact hu, hr⟩
  · rcases hk with rfl | ⟨rfl, h1, h2⟩
    · exact ⟨hB, fun i _ => by rw [hadr]; exact World.frozen?_alloc_new _ _ _ _⟩
    · refine ⟨hB, h1, fun i hi => ⟨by rw [hadr]; exact World.frozen?_alloc_new _ _ _ _, ?_⟩⟩
      have hi' : i < C.size := Nat.lt_of_lt_of_le hi h2
      exact ⟨C[i], by rw [hadr, World.cell?_alloc_new]; simp [hi']⟩
/-- A new row of cells, all of them known. -/
theorem new_ok {u : Value} {s : St} {c : List AV} {f : Nat → AV} {C : Array Value} {t : TypeId} {v : AV} {h : Tr AB} {c' : Nat} {tl : List Nat} (rh : RH B ρ G w) (hB : B ≤ w.heap.size)
    (hc : RVs ρ c C.toList) (e : new s .fix c f = .ok v h c' tl) (fr : ∀ n, s.c ≤ n → n < c' → ρ n = none)
    (hf : ∀ ρ' : Rho, ρ' s.c = some ⟨w.heap.size, 0, 0⟩ → ρ.le ρ' → RV ρ' (f s.c) u) :
    ∃ ρ' G', (newRow t C).run P w = .ok ⟨w.heap.size, 0, none⟩ (w.alloc (.cells C t)) ∧ Aft B ρ G w s v h c' tl u ρ' G' (w.alloc (.cells C t)) := by
  rw [show new s .fix c f = newO s (.cells .fix c) f from rfl, newO_eq] at e
  cases e
  have fr' := fr s.c (Nat.le_refl _) (Nat.lt_succ_self _)
  have hle := le_upF fr' ⟨w.heap.size, 0, 0⟩
  have hc' := hc.mono hle
  refine ⟨_, _, ?_, Aft.new rh hB fr' (.cells C t) 0 (hf _ (upF_same _ _ _) hle) (RB.fresh hB (fun i v hv => by simpa using hc'.get i hv) (.inl rfl))⟩
  rfl
theorem oAlloc_ok (hE : EnvOK P E) {s : St} {t : Nat} {v : AV} {h : Tr AB} {c : Nat} {tl : List Nat} (rh : RH B ρ G w) (hB : B ≤ w.heap.size) (e : oAlloc E s t = .ok v h c tl)
    (fr : ∀ n, s.c ≤ n → n < c → ρ n = none) : ∃ u w' ρ' G', (Instr.alloc t true (.tuple #[])).run P w = .ok u w' ∧ Aft B ρ G w s v h c tl u ρ' G' w' := by
  unfold oAlloc at e
  obtain ⟨ti, ht, e1⟩ := oE_no_eq e
  obtain ⟨z, hz, _, hzr⟩ := (hE.ty _ _ ht).zero
  obtain ⟨ρ', G', h1, h2⟩ := new_ok (P := P) (t := t) (u := .pointer (some ⟨w.heap.size, 0, none⟩)) rh hB (hz ρ) e1 fr (fun ρ' hρ _ => by
    have := RV.ptr (ρ := ρ') s.c 0 _ hρ
    simpa [Loc.adr, ptr0] using this)
  exact ⟨_, _, ρ', G', by simp [Instr.alloc, hzr, newVar, h1], h2⟩
theorem oBox_ok {s : St} {t : Nat} {x : AV} {y : Value} {cs : List AV} {v : AV} {h : Tr AB} {c : Nat} {tl : List Nat} (rh : RH B ρ G w) (hB : B ≤ w.heap.size) (hx : RV ρ x y) (hcs : cellsO x = some cs)
    (e : new s .fix cs ptr0 = .ok v h c tl) (fr : ∀ n, s.c ≤ n → n < c → ρ n = none) : ∃ u w' ρ' G', (Instr.box t y).run P w = .ok u w' ∧ Aft B ρ G w s v h c tl u ρ' G' w' := by
  obtain ⟨ρ', G', h1, h2⟩ := new_ok (P := P) (t := t) (u := .pointer (some ⟨w.heap.size, 0, none⟩)) rh hB (cellsO_rv hx hcs) e fr (fun ρ' hρ _ => by
    have := RV.ptr (ρ := ρ') s.c 0 _ hρ
    simpa [Loc.adr, ptr0] using this)
  exact ⟨_, _, ρ', G', by simp [Instr.box, newVar, h1], h2⟩
theorem oBuildSlice_ok (hE : EnvOK P E) {s : St} {t n : Nat} {ei : TI} {l : List (Nat × AV)} {L : Array (Nat × Value)} {cs : List AV} {v : AV} {h : Tr AB} {c : Nat} {tl : List Nat} (rh : RH B ρ G w) (hB : B ≤ w.heap.size)
    (ht : elemT E t = some ei) (h1 : l.map (·.1) = L.toList.map (·.1)) (h2 : RVs ρ (l.map (·.2)) (L.toList.map (·.2))) (hn : n * ei.size ≤ 16777216)
    (hf : fills (placeA ei.size) l (reps ei.z n) = some cs) (e : new s .fix cs (sl0 n) = .ok v h c tl) (fr : ∀ n, s.c ≤ n → n < c → ρ n = none) :
    ∃ u w' ρ' G', (Instr.buildSlice t n L).run P w = .ok u w' ∧ Aft B ρ G w s v h c tl u ρ' G' w' := by
  obtain ⟨el, hel, hT⟩ := elemT_ok hE ht
  obtain ⟨z, hz, _, hzr⟩ := hT.zero
  have hzl := (hz ρ).length
  have hzz := hT.zlen
  simp at hzl
  obtain ⟨C', h3, h4⟩ := fills_ok (ρ := ρ) (place := placeA ei.size) (placeC := fun i => some (i * ei.size, ei.size)) (fun i p h => h) l L.toList (reps ei.z n) cs
    ((Array.range (n * ei.size)).map fun i => (if n * ei.size = 0 then #[] else z.cells)[i % (if n * ei.size = 0 then #[] else z.cells).size]!) h1 h2 (by
      by_cases h0 : n * ei.size = 0
      · have : reps ei.z n = [] := List.eq_nil_of_length_eq_zero (by rw [reps_length, hzz]; exact h0)
        rw [this, h0]; simp; exact .nil
      · simp only [if_neg h0]
        have := reps_rv (hz ρ) n
        rwa [show z.cells.size = ei.size by omega] at this ⊢) hf
  obtain ⟨ρ', G', h5, h6⟩ := new_ok (P := P) (t := el) (u := .slice (some ⟨w.heap.size, 0, none⟩) n n) rh hB h4 e fr (fun ρ' hρ _ => by
    have := RV.slf (ρ := ρ') s.c 0 n n _ hρ
    simpa [Loc.adr, sl0] using this)
  refine ⟨_, _, ρ', G', ?_, h6⟩
  simp only [Instr.buildSlice, Sem.run_bind, run_underlying hel, hT.size, Result.andThen_ok]
  rw [if_neg (by omega)]
  by_cases h0 : n * ei.size = 0
  · simp only [h0, if_true] at h3 ⊢
    simp only [Sem.run_bind, Sem.run_pure, Result.andThen_ok, h3, h5]
  · simp only [if_neg h0] at h3 ⊢
    simp only [Sem.run_bind, Sem.run_pure, Result.andThen_ok, hzr, h3, h5]
end
end Go.Ab
