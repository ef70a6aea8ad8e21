/- A part of an evaluator of the program's operations over values that are known whole or in part, and of the proof that what it answers holds of the program's run. No condition. -/
import Derived.Test.YtlegocibpfflnaaGreatDoorS4
namespace Go.Ab
open Go.RowKit (Below)

structure Aft (B : Nat) (ρ : Rho) (G : Hp) (w : World) (s : St) (v : AV) (h : Tr AB) (c : Nat) (tl : List Nat) (u : Value) (ρ' : Rho) (G' : Hp) (w' : World) : Prop where
  cc : s.c ≤ c
  le : ρ.le ρ'
  out : ∀ n, (n < s.c ∨ c ≤ n) → ρ' n = ρ n
  rv : RV ρ' v u
  rh : RH B ρ' G' w'
  off : ∀ n, n ∉ tl → (n < s.c ∨ c ≤ n) → G' n = G n
  on : ∀ n o, (n ∈ tl ∨ (s.c ≤ n ∧ n < c)) → h.get n = some o → G' n = some o
  kp : ∀ n, n ∉ tl → (n < s.c ∨ c ≤ n) → h.get n = s.h.get n
  bel : Below B w w'

section
variable {P : Program} {E : Env} {B : Nat} {ρ : Rho} {G : Hp} {w : World}
theorem Aft.pure {s : St} {v : AV} {u : Value} (rh : RH B ρ G w) (hv : RV ρ v u) : Aft B ρ G w s v s.h s.c [] u ρ G w :=
  ⟨Nat.le_refl _, Rho.le_refl _, fun _ _ => rfl, hv, rh, fun _ _ _ => rfl, fun n o h _ => (by rcases h with h | h; exact absurd h (by simp); omega), fun _ _ _ => rfl, Below.refl _ _⟩
/-- the world has grown, and no more -/
theorem RH.grow {w' : World} (rh : RH B ρ G w) (h : Below w.heap.size w w') : RH B ρ G w' :=
  ⟨fun n o hg => by
    obtain ⟨L, hL, hr⟩ := rh.blk n o hg
    exact ⟨L, hL, hr.same (h.block _ (rh.inn n L hL))⟩, rh.dis, fun n L hL => Nat.lt_of_lt_of_le (rh.inn n L hL) h.size⟩
theorem Aft.grown {s : St} {v : AV} {u : Value} {w' : World} (rh : RH B ρ G w) (hB : B ≤ w.heap.size) (hv : RV ρ v u) (h : Below w.heap.size w w') : Aft B ρ G w s v s.h s.c [] u ρ G w' :=
  ⟨Nat.le_refl _, Rho.le_refl _, fun _ _ => rfl, hv, rh.grow h, fun _ _ _ => rfl, fun n o h _ => (by rcases h with h | h; exact absurd h (by simp); omega), fun _ _ _ => rfl, h.mono hB⟩
/-- a new block -/
theorem Aft.new {s : St} {b : AB} {f : Nat → AV} {u : Value} (rh : RH B ρ G w) (hB : B ≤ w.heap.size) (fr : ρ s.c = none) (o : Obj) (K : Nat)
    (hv : RV (upF ρ s.c (some ⟨w.heap.size, 0, K⟩)) (f s.c) u) (hb : RB B (upF ρ s.c (some ⟨w.heap.size, 0, K⟩)) (w.alloc o) ⟨w.heap.size, 0, K⟩ b) :
    Aft B ρ G w s (f s.c) (s.h.set s.c b) (s.c + 1) [] u (upF ρ s.c (some ⟨w.heap.size, 0, K⟩)) (upF G s.c (some b)) (w.alloc o) :=
  ⟨by omega, le_upF fr _, fun n hn => upF_other _ _ _ (by omega), hv, rh.new fr o K b hb, fun n _ hn => upF_other _ _ _ (by omega),
   fun n o' h hg => by
    rcases h with h | h
    · simp at h
    · obtain rfl : n = s.c := by omega
      rw [Tr.get_set, if_pos rfl] at hg; cases hg; exact upF_same _ _ _,
   fun n _ hn => by rw [Tr.get_set, if_neg (by omega)],
   (Below.refl _ _).alloc hB _⟩
/-- an old block, turned -/
theorem Aft.upd {s : St} {v : AV} {u : Value} {n : Nat} {b : AB} {w' : World} (rh : RH B ρ (upF G n (some b)) w') (hv : RV ρ v u) (hw : Below B w w') :
    Aft B ρ G w s v (s.h.set n b) s.c [n] u ρ (upF G n (some b)) w' :=
  ⟨Nat.le_refl _, Rho.le_refl _, fun _ _ => rfl, hv, rh, fun m hm _ => upF_other _ _ _ (by simpa using hm),
   fun m o h hg => by
    rcases h with h | h
    · obtain rfl : m = n := by simpa using h
      rw [Tr.get_set, if_pos rfl] at hg; cases hg; exact upF_same _ _ _
    · omega,
   fun m hm _ => by rw [Tr.get_set, if_neg (by simpa using hm)], hw⟩

theorem adr_add (L : Loc) (o i : Nat) : (L.adr o).add i = L.adr (o + i) := by
  unfold Addr.add Loc.adr
  split
  · next h => subst h; rfl
  · simp [Nat.add_assoc]

/-! Reading. -/
theorem cellsAt_eq {h : Tr AB} {n : Nat} {c : List AV} (e : cellsAt h n = some c) : ∃ k, h.get n = some (.cells k c) := by
  obtain ⟨b, hb, e⟩ := oE_none_eq e
  cases b <;> simp at e
  next k c' => subst e; exact ⟨k, hb⟩
theorem read_cells {n : Nat} {k : BK} {c : List AV} {L : Loc} (rh : RH B ρ G w) (hG : G n = some (.cells k c)) (hL : ρ n = some L) (i : Nat) {v : AV} (hv : c[i]? = some v) :
    ∃ u, w.cell? (L.adr i) = some u ∧ RV ρ v u := by
  obtain ⟨M, h1, h2⟩ := rh.blk n _ hG
  rw [hL] at h1; cases h1
  exact h2.1 i v hv
theorem list_of_cells {L : Loc} {c : List AV} (hc : ∀ (i : Nat) (v : AV), c[i]? = some v → ∃ u, w.cell? (L.adr i) = some u ∧ RV ρ v u) (o m : Nat) {l : List AV} (hl : sub c o m = some l) :
    ∃ x : List Value, RVs ρ l x ∧ ∀ j u, x[j]? = some u → w.cell? (L.adr (o + j)) = some u := by
  have hlen := sub_length hl
  have : ∀ (m' : Nat) (hm : m' ≤ m), ∃ x : List Value, RVs ρ (l.take m') x ∧ ∀ j u, x[j]? = some u → w.cell? (L.adr (o + j)) = some u := by
    intro m'
    induction m' with
    | zero => exact fun _ => ⟨[], by simp; exact .nil, fun j u h => by simp at h⟩
    | succ m' ih =>
      intro hm
      obtain ⟨x, h1, h2⟩ := ih (by omega)
      have hlt : m' < l.length := by omega
      have hg : l[m']? = some l[m'] := by simp [hlt]
      obtain ⟨u, hu, hr⟩ := hc (o + m') l[m'] (by rw [← sub_get hl m' (by omega)]; exact hg)
      refine ⟨x ++ [u], ?_, fun j v hj => ?_⟩
      · rw [List.take_succ_eq_append_getElem hlt]; exact h1.append (.cons hr .nil)
      · have hx : x.length = m' := by rw [← h1.length]; simp; omega
        rcases Nat.lt_or_ge j x.length with hj' | hj'
        · rw [List.getElem?_append_left hj'] at hj; exact h2 j v hj
        · rw [List.getElem?_append_right hj'] at hj
          have : j - x.length = 0 := by
            rcases Nat.lt_or_ge (j - x.length) 1 with h | h
            · omega
            · simp [List.getElem?_eq_none (show [u].length ≤ j - x.length by simpa using h)] at hj
          rw [this] at hj
          simp at hj
          subst hj
          obtain rfl : j = m' := by omega
          exact hu
  obtain ⟨x, h1, h2⟩ := this m (Nat.le_refl _)
  rw [List.take_of_length_le (by omega)] at h1
  exact ⟨x, h1, h2⟩
theorem run_cells {L : Loc} {o : Nat} {x : List Value} (h : ∀ j u, x[j]? = some u → w.cell? (L.adr (o + j)) = some u) : (loadCells (L.adr o) x.length).run P w = .ok x.toArray w :=
  run_loadCells_list (P := P) w (L.adr o) x fun j v hj => by rw [adr_add]; exact h j v hj
theorem partC_ok {ti : TI} {t : Nat} (ht : TyOK P t ti) {c : List AV} {o : Nat} {v : AV} {L : Loc} (hc : ∀ (i : Nat) (v : AV), c[i]? = some v → ∃ u, w.cell? (L.adr i) = some u ∧ RV ρ v u)
    (e : partC ti c o = some v) : ∃ u, (loadVar t (L.adr o)).run P w = .ok u w ∧ RV ρ v u := by
  unfold partC at e
  simp only [loadVar, Sem.run_bind, ht.isAgg, Result.andThen_ok]
  cases hag : ti.agg with
  | true =>
    rw [hag, bE_true] at e
    obtain ⟨l, hl, e⟩ := oE_none_eq e
    cases e
    obtain ⟨x, h1, h2⟩ := list_of_cells hc o ti.size hl
    have hx : x.length = ti.size := by rw [← h1.length]; exact sub_length hl
    refine ⟨.agg x.toArray, ?_, .agg _ _ (by simpa using h1)⟩
    have := run_cells (P := P) h2
    rw [hx] at this
    simp [ht.size, this]
  | false =>
    rw [hag, bE_false, nth_eq] at e
    obtain ⟨u, h1, h2⟩ := hc o v e
    exact ⟨u, by simp [h1], h2⟩
theorem load_ok (hE : EnvOK P E) {s : St} {t : Nat} {p : AV} {x : Value} {v : AV} (rh : RH B ρ G w) (hx : RV ρ p x) (e : load E s.h t p = some v)
    (hp : ∀ n ∈ refsV p, ∀ b, s.h.get n = some b → G n = some b) : ∃ u, (Instr.loadAt t x).run P w = .ok u w ∧ RV ρ v u := by
  unfold load at e
  obtain ⟨⟨n, o⟩, hpo, e1⟩ := oE_none_eq e
  obtain rfl := asPtr_eq hpo
  rw [pE_mk] at e1
  obtain ⟨c, hc, e2⟩ := oE_none_eq e1
  obtain ⟨ti, ht, e3⟩ := oE_none_eq e2
  obtain ⟨k, hk⟩ := cellsAt_eq hc
  cases hx with
  | ptr n o L hL =>
    have hG := hp n (by simp [refsV, asPtr, oE]) _ hk
    obtain ⟨u, h1, h2⟩ := partC_ok (hE.ty _ _ ht) (fun i v => read_cells rh hG hL i) e3
    exact ⟨u, by simpa [Instr.loadAt, Instr.sureAddr] using h1, h2⟩

/-! Writing. -/
theorem wcells_eq {h : Tr AB} {n : Nat} {k : BK} {c : List AV} (e : wcells h n = some (k, c)) : h.get n = some (.cells k c) ∧ k ≠ .ro := by
  obtain ⟨b, hb, e1⟩ := oE_none_eq e
  cases b with
  | cells k' c' => cases k' <;> simp at e1 <;> (obtain ⟨rfl, rfl⟩ := e1; exact ⟨hb, by simp⟩)
  | amap _ => simp at e1
  | siter _ _ => simp at e1
  | dead => simp at e1
theorem own_of {k : BK} {c : List AV} (h : k ≠ .ro) : (AB.cells k c).own = true := by cases k <;> first | rfl | exact absurd rfl h
theorem RB.writable {L : Loc} {k : BK} {c : List AV} (r : RB B ρ w L (.cells k c)) (h : k ≠ .ro) : B ≤ L.blk ∧ ∀ i, i < c.length → w.frozen? (L.adr i) = false := by
  cases k with
  | ro => exact absurd rfl h
  | fix => exact r.2
  | el => exact ⟨r.2.1, fun i hi => (r.2.2.2 i (Nat.lt_of_lt_of_le hi r.2.2.1)).1⟩
/-- Some cells of a block turned, in the evaluator and in the world. -/
theorem cells_upd {n : Nat} {L : Loc} {k : BK} {c c' : List AV} {o : Nat} {vs : List AV} {x : List Value} (rh : RH B ρ G w) (hG : G n = some (.cells k c)) (hL : ρ n = some L) (hk : k ≠ .ro)
    (hp : put vs o c = some c') (hx : RVs ρ vs x) : RH B ρ (upF G n (some (.cells k c'))) (w.setCells L.blk (L.base + o) x) := by
  obtain ⟨M, h1, hr⟩ := rh.blk n _ hG
  rw [hL] at h1; cases h1
  have hlen := put_length hp
  have hb := (put_eq _ _ _ _ hp).2
  have hxl := hx.length
  have hle := hr.ext_le
  refine rh.upd hG hL (own_of hk) (setCells_size _ _ _ _) (fun b hb => setCells_other _ _ _ _ _ hb) ?_ (fun i hi => ?_) (fun a => World.frozen?_setCells _ _ _ _ _) ?_ (fun i hi => ?_)
  · cases x with
    | nil => exact .inl rfl
    | cons u x =>
      refine .inr ⟨L.base + o, by omega, ?_⟩
      simp at hxl
      omega
  · refine World.cell?_setCells_out _ _ _ _ _ fun _ _ => ?_
    have : ¬ (L.base ≤ i ∧ i < L.base + ext' L k c) := hi
    simp only
    omega
  · have hext : ext' L k c' = ext' L k c := by cases k <;> simp [ext', hlen]
    have hin : ∀ i, i < c.length → ∃ u, w.cell? (L.adr i) = some u := fun i hi => by
      obtain ⟨u, hu, _⟩ := hr.1 i c[i] (by simp [hi])
      exact ⟨u, hu⟩
    have hcell : ∀ (i : Nat) (v : AV), c'[i]? = some v → ∃ u, (w.setCells L.blk (L.base + o) x).cell? (L.adr i) = some u ∧ RV ρ v u := by
      intro i v hv
      rw [put_get hp] at hv
      split at hv
      · next hi =>
        obtain ⟨u, hu, hr'⟩ := hx.get (i - o) hv
        refine ⟨u, ?_, hr'⟩
        have hj : i - o < x.length := by omega
        have := World.cell?_setCells_in L.blk x (L.base + o) w (fun j hj => by
          obtain ⟨u, hu⟩ := hin (o + j) (by omega)
          unfold Loc.adr at hu
          rw [Nat.add_assoc, hu]; rfl) (i - o) hj
        unfold Loc.adr
        rw [show L.base + i = L.base + o + (i - o) by omega, this]
        rw [List.getElem?_eq_getElem hj] at hu
        exact hu
      · next hi =>
        obtain ⟨u, hu, hr'⟩ := hr.1 i v hv
        refine ⟨u, ?_, hr'⟩
        rw [World.cell?_setCells_out]
        · exact hu
        · intro _ _; unfold Loc.adr; simp only; omega
    refine ⟨hcell, ?_⟩
    have h2 := hr.2
    cases k with
    | ro => exact absurd rfl hk
    | fix => exact ⟨h2.1, fun i hi => by rw [World.frozen?_setCells]; exact h2.2 i (by omega)⟩
    | el =>
      refine ⟨h2.1, by rw [hlen]; exact h2.2.1, fun i hi => ⟨by rw [World.frozen?_setCells]; exact (h2.2.2 i hi).1, ?_⟩⟩
      rcases Nat.lt_or_ge i c'.length with hi' | hi'
      · obtain ⟨u, hu, _⟩ := hcell i c'[i] (by simp [hi'])
        exact ⟨u, hu⟩
      · rw [World.cell?_setCells_out]
        · exact (h2.2.2 i hi).2
        · intro _ _; unfold Loc.adr; simp only; omega
  · have hext : ext' L k c' = ext' L k c := by cases k <;> simp [ext', hlen]
    have : L.base ≤ i ∧ i < L.base + ext' L k c' := hi
    exact ⟨this.1, by rw [hext] at this; exact this.2⟩
/-- The run of a store of some cells. -/
theorem run_put {n : Nat} {L : Loc} {k : BK} {c c' : List AV} {o : Nat} {vs : List AV} {x : List Value} (rh : RH B ρ G w) (hG : G n = some (.cells k c)) (hL : ρ n = some L) (hk : k ≠ .ro)
    (hp : put vs o c = some c') (hx : RVs ρ vs x) (hs : scals vs = true) : (storeCells (L.adr o) x).run P w = .ok () (w.setCells L.blk (L.base + o) x) := by
  obtain ⟨M, h1, hr⟩ := rh.blk n _ hG
  rw [hL] at h1; cases h1
  have hb := (put_eq _ _ _ _ hp).2
  have hxl := hx.length
  have := run_storeCells_cells (P := P) L.blk (L.base + o) x 0 w (fun j hj => by
      obtain ⟨u, hu, _⟩ := hr.1 (o + j) c[o + j] (by simp)
      unfold Loc.adr at hu
      rw [show L.base + o + 0 + j = L.base + (o + j) by omega, hu]; rfl) (fun j hj => by
      have := (hr.writable hk).2 (o + j) (by omega)
      unfold Loc.adr at this
      rw [show L.base + o + 0 + j = L.base + (o + j) by omega]; exact this) (scals_one hx hs)
  simpa [Loc.adr] using this
theorem storeC_ok {s : St} {r v : AV} {n o c : Nat} {vs : List AV} {h : Tr AB} {tl : List Nat} {L : Loc} {x : List Value} (rh : RH B ρ G w) (hL : ρ n = some L) (hx : RVs ρ vs x)
    (e : storeC s r n o vs = .ok v h c tl) (hp : ∀ b, s.h.get n = some b → G n = some b) :
    (storeCells (L.adr o) x).run P w = .ok () (w.setCells L.blk (L.base + o) x) ∧ v = r ∧ ∀ u, RV ρ r u →
      Aft B ρ G w s v h c tl u ρ (upF G n (h.get n)) (w.setCells L.blk (L.base + o) x) := by
  unfold storeC at e
  obtain ⟨⟨k, cs⟩, hk, e1⟩ := oE_no_eq e
  rw [pE_mk] at e1
  obtain ⟨c', hc', e2⟩ := oE_no_eq e1
  obtain ⟨hs, e3⟩ := bE_no_eq e2
  rw [upd_eq] at e3
  obtain ⟨hg, hro⟩ := wcells_eq hk
  have hG := hp _ hg
  cases e3
  have hB : B ≤ L.blk := by
    obtain ⟨M, h1, hr⟩ := rh.blk n _ hG
    rw [hL] at h1; cases h1
    exact (hr.writable hro).1
  refine ⟨run_put rh hG hL hro hc' hx hs, rfl, fun u hu => ?_⟩
  rw [Tr.get_set, if_pos rfl]
  exact Aft.upd (cells_upd rh hG hL hro hc' hx) hu (setCells_below _ hB _ _ _)
theorem store_ok (hE : EnvOK P E) {s : St} {t : Nat} {p v r : AV} {x y : Value} {h : Tr AB} {c : Nat} {tl : List Nat} (rh : RH B ρ G w) (hx : RV ρ p x) (hy : RV ρ v y)
    (e : store E s t v p = .ok r h c tl) (hp : ∀ n ∈ refsV p, ∀ b, s.h.get n = some b → G n = some b) :
    ∃ w' G', (Instr.storeAt t x y).run P w = .ok () w' ∧ Aft B ρ G w s r h c tl undef ρ G' w' := by
  unfold store at e
  obtain ⟨⟨n, o⟩, hpo, e1⟩ := oE_no_eq e
  obtain rfl := asPtr_eq hpo
  rw [pE_mk] at e1
  obtain ⟨ti, ht, e2⟩ := oE_no_eq e1
  obtain ⟨cs, hcs, e3⟩ := oE_no_eq e2
  obtain ⟨hl, e4⟩ := bE_no_eq e3
  cases hx with
  | ptr n o L hL =>
    have hcx := cellsO_rv hy hcs
    obtain ⟨h1, h2, h3⟩ := storeC_ok (P := P) rh hL hcx e4 (hp n (by simp [refsV, asPtr, oE]))
    subst h2
    refine ⟨_, _, ?_, h3 undef (.tup [] #[] .nil)⟩
    have hsz := beq_true hl
    rw [len_eq, hcx.length] at hsz
    simp only [Instr.storeAt, Instr.sureAddr, storeVar, Sem.run_bind, Sem.run_pure, Result.andThen_ok, (hE.ty _ _ ht).size]
    rw [if_neg (by simpa using hsz)]
    simpa using h1
end
end Go.Ab
