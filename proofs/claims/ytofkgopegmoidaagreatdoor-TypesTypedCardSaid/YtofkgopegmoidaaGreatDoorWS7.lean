/- A part of an evaluator of the program's operations over values that are known whole or in part, and of the proof that what it answers holds of the program's run. No condition. -/
import Derived.Test.YtofkgopegmoidaaGreatDoorWS4
namespace Go.Ab
open Go.RowKit (Below)

structure Aft (B : Nat) (ρ : Rho) (G : Hp) (w : World) (s : St) (v : AV) (h : Tr AB) (c : Nat) (tl : List Nat) (u : Value) (ρ' : Rho) (G' : Hp) (w' : World) : Prop where
  cc : s.c ≤ c
  le : ρ.le ρ'
  out : ∀ n, (n < s.c ∨ c ≤ n) → ρ' n = ρ n
  rv : RV ρ' v u
  rh : RH B ρ' G' w'
  off : ∀ n, n ∉ tl → (n < s.c ∨ c ≤ n) → G' n = G n
  on : ∀ n o, (n ∈ tl ∨ (s.c ≤ n ∧ n < c)) → h.get n = some o → G' n = some o
  kp : ∀ n, n ∉ tl → (n < s.c ∨ c ≤ n) → h.get n = s.h.get n
  bel : Below B w w'

/-- What one operation does to the world, and to what is known of it: blocks that the evaluator doesn't own stay as they are. -/
structure StepD (ρ : Rho) (G : Hp) (w : World) (ρ' : Rho) (G' : Hp) (w' : World) : Prop where
  le : ρ.le ρ'
  fr : ∀ k, k < w.heap.size → (∀ n o L, G n = some o → o.own = true → ρ n = some L → L.blk ≠ k) → w'.heap[k]? = w.heap[k]?
  sz : w.heap.size ≤ w'.heap.size
  nw : ∀ n, ρ n = none → ∀ L, ρ' n = some L → w.heap.size ≤ L.blk ∨ ∃ m o M, G m = some o ∧ o.own = true ∧ ρ m = some M ∧ M.blk = L.blk
  tg : ∀ n, ρ n = none → ∀ L, ρ' n = some L → L.tag = 0
  ro : ∀ n o, G n = some o → o.own = false → G' n = some o
  go : ∀ n o', G' n = some o' → (∃ o, G n = some o ∧ (o'.own = true → o.own = true)) ∨ ρ n = none
theorem StepD.refl (ρ : Rho) (G : Hp) (w : World) : StepD ρ G w ρ G w := ⟨Rho.le_refl _, fun _ _ _ => rfl, Nat.le_refl _, fun n h L h2 => (by rw [h] at h2; cases h2), fun n h L h2 => (by rw [h] at h2; cases h2), fun _ _ h _ => h, fun n o h => .inl ⟨o, h, fun h => h⟩⟩
theorem StepD.drew (ρ : Rho) (G : Hp) (w : World) (d : Nat) : StepD ρ G w ρ G { w with drawn := d } := ⟨Rho.le_refl _, fun _ _ _ => rfl, Nat.le_refl _, fun n h L h2 => (by rw [h] at h2; cases h2), fun n h L h2 => (by rw [h] at h2; cases h2), fun _ _ h _ => h, fun n o h => .inl ⟨o, h, fun h => h⟩⟩
theorem StepD.of_drew {ρ ρ' : Rho} {G G' : Hp} {w w' : World} {d : Nat} (h : StepD ρ G { w with drawn := d } ρ' G' w') : StepD ρ G w ρ' G' w' := ⟨h.le, h.fr, h.sz, h.nw, h.tg, h.ro, h.go⟩
structure AftO (B : Nat) (ρ : Rho) (G : Hp) (w : World) (s : St) (v : AV) (h : Tr AB) (c : Nat) (tl : List Nat) (u : Value) (ρ' : Rho) (G' : Hp) (w' : World) : Prop extends Aft B ρ G w s v h c tl u ρ' G' w' where
  st : StepD ρ G w ρ' G' w'

section
variable {P : Program} {E : Env} {B : Nat} {ρ : Rho} {G : Hp} {w : World}
theorem AftO.pure {s : St} {v : AV} {u : Value} (rh : RH B ρ G w) (hv : RV ρ v u) : AftO B ρ G w s v s.h s.c [] u ρ G w :=
  ⟨⟨Nat.le_refl _, Rho.le_refl _, fun _ _ => rfl, hv, rh, fun _ _ _ => rfl, fun n o h _ => (by rcases h with h | h; exact absurd h (by simp); omega), fun _ _ _ => rfl, Below.refl _ _⟩, StepD.refl ..⟩
theorem StepD.new {n : Nat} (rh : RH B ρ G w) (fr : ρ n = none) (o : Obj) (K : Nat) (b : AB) : StepD ρ G w (upF ρ n (some ⟨w.heap.size, 0, K, undef, 0⟩)) (upF G n (some b)) (w.alloc o) := by
  refine ⟨le_upF fr _, fun k hk _ => Go.RowKit.Below.heap_alloc _ _ _ hk, by simp, fun m hm L hL => ?_, fun m hm L hL => ?_, fun m x hx _ => ?_, fun m x hx => ?_⟩
  · by_cases h : m = n
    · subst h
      rw [upF_same] at hL
      cases hL
      exact .inl (Nat.le_refl _)
    · rw [upF_other _ _ _ h, hm] at hL
      cases hL
  · by_cases h : m = n
    · subst h
      rw [upF_same] at hL
      cases hL
      rfl
    · rw [upF_other _ _ _ h, hm] at hL
      cases hL
  · rw [upF_other _ _ _ ?_]
    · exact hx
    · intro h
      subst h
      obtain ⟨L, hL, _⟩ := rh.blk m x hx
      rw [fr] at hL
      cases hL
  · by_cases h : m = n
    · subst h; exact .inr fr
    · rw [upF_other _ _ _ h] at hx
      exact .inl ⟨x, hx, fun h => h⟩
theorem StepD.upd {n : Nat} {L : Loc} {o b : AB} {w' : World} (hG : G n = some o) (hL : ρ n = some L) (hown : o.own = true) (hs : w.heap.size ≤ w'.heap.size) (hb : ∀ k, k ≠ L.blk → k < w.heap.size → w'.heap[k]? = w.heap[k]?) : StepD ρ G w ρ (upF G n (some b)) w' := by
  refine ⟨Rho.le_refl _, fun k hk h => hb k (fun e => h n o L hG hown hL e.symm) hk, hs, fun m hm L hL => ?_, fun m hm L hL => ?_, fun m x hx hx2 => ?_, fun m x hx => ?_⟩
  · rw [hm] at hL
    cases hL
  · rw [hm] at hL
    cases hL
  · rw [upF_other _ _ _ ?_]
    · exact hx
    · intro h
      subst h
      rw [hG] at hx
      cases hx
      rw [hown] at hx2
      cases hx2
  · by_cases h : m = n
    · subst h
      exact .inl ⟨o, hG, fun _ => hown⟩
    · rw [upF_other _ _ _ h] at hx
      exact .inl ⟨x, hx, fun h => h⟩
/-- a new block -/
theorem AftO.new {s : St} {b : AB} {f : Nat → AV} {u : Value} (rh : RH B ρ G w) (hB : B ≤ w.heap.size) (fr : ρ s.c = none) (o : Obj) (K : Nat)
    (hv : RV (upF ρ s.c (some ⟨w.heap.size, 0, K, undef, 0⟩)) (f s.c) u) (hb : RB B (upF ρ s.c (some ⟨w.heap.size, 0, K, undef, 0⟩)) (w.alloc o) ⟨w.heap.size, 0, K, undef, 0⟩ b) :
    AftO B ρ G w s (f s.c) (s.h.set s.c b) (s.c + 1) [] u (upF ρ s.c (some ⟨w.heap.size, 0, K, undef, 0⟩)) (upF G s.c (some b)) (w.alloc o) :=
  ⟨⟨by omega, le_upF fr _, fun n hn => upF_other _ _ _ (by omega), hv, rh.new fr o K b hb, fun n _ hn => upF_other _ _ _ (by omega),
   fun n o' h hg => by
    rcases h with h | h
    · simp at h
    · obtain rfl : n = s.c := by omega
      rw [Tr.get_set, if_pos rfl] at hg; cases hg; exact upF_same _ _ _,
   fun n _ hn => by rw [Tr.get_set, if_neg (by omega)],
   (Below.refl _ _).alloc hB _⟩, StepD.new rh fr o K b⟩
/-- an old block, turned -/
theorem AftO.upd {s : St} {v : AV} {u : Value} {n : Nat} {b o : AB} {L : Loc} {w' : World} (hG : G n = some o) (hL : ρ n = some L) (hown : o.own = true) (hb : ∀ k, k ≠ L.blk → k < w.heap.size → w'.heap[k]? = w.heap[k]?) (rh : RH B ρ (upF G n (some b)) w') (hv : RV ρ v u) (hw : Below B w w') :
    AftO B ρ G w s v (s.h.set n b) s.c [n] u ρ (upF G n (some b)) w' :=
  ⟨⟨Nat.le_refl _, Rho.le_refl _, fun _ _ => rfl, hv, rh, fun m hm _ => upF_other _ _ _ (by simpa using hm),
   fun m o h hg => by
    rcases h with h | h
    · obtain rfl : m = n := by simpa using h
      rw [Tr.get_set, if_pos rfl] at hg; cases hg; exact upF_same _ _ _
    · omega,
   fun m hm _ => by rw [Tr.get_set, if_neg (by simpa using hm)], hw⟩, StepD.upd hG hL hown hw.size hb⟩

theorem adr_add (L : Loc) (o i : Nat) : (L.adr o).add i = L.adr (o + i) := by
  unfold Addr.add Loc.adr
  split
  · next h => subst h; rfl
  · simp [Nat.add_assoc]

/-! Reading. -/
theorem cellsAt_eq {h : Tr AB} {n : Nat} {c : List AV} (e : cellsAt h n = some c) : ∃ k, h.get n = some (.cells k c) := by
  obtain ⟨b, hb, e⟩ := oE_none_eq e
  cases b <;> simp at e
  next k c' => subst e; exact ⟨k, hb⟩
theorem read_cells {n : Nat} {k : BK} {c : List AV} {L : Loc} (rh : RH B ρ G w) (hG : G n = some (.cells k c)) (hL : ρ n = some L) (i : Nat) {v : AV} (hv : c[i]? = some v) :
    ∃ u, w.cell? (L.adr i) = some u ∧ RV ρ v u := by
  obtain ⟨M, h1, h2⟩ := rh.blk n _ hG
  rw [hL] at h1; cases h1
  exact h2.1 i v hv
theorem list_of_cells {L : Loc} {c : List AV} (hc : ∀ (i : Nat) (v : AV), c[i]? = some v → ∃ u, w.cell? (L.adr i) = some u ∧ RV ρ v u) (o m : Nat) {l : List AV} (hl : sub c o m = some l) :
    ∃ x : List Value, RVs ρ l x ∧ ∀ j u, x[j]? = some u → w.cell? (L.adr (o + j)) = some u := by
  have hlen := sub_length hl
  have : ∀ (m' : Nat) (hm : m' ≤ m), ∃ x : List Value, RVs ρ (l.take m') x ∧ ∀ j u, x[j]? = some u → w.cell? (L.adr (o + j)) = some u := by
    intro m'
    induction m' with
    | zero => exact fun _ => ⟨[], by simp; exact .nil, fun j u h => by simp at h⟩
    | succ m' ih =>
      intro hm
      obtain ⟨x, h1, h2⟩ := ih (by omega)
      have hlt : m' < l.length := by omega
      have hg : l[m']? = some l[m'] := by simp [hlt]
      obtain ⟨u, hu, hr⟩ := hc (o + m') l[m'] (by rw [← sub_get hl m' (by omega)]; exact hg)
      refine ⟨x ++ [u], ?_, fun j v hj => ?_⟩
      · rw [List.take_succ_eq_append_getElem hlt]; exact h1.append (.cons hr .nil)
      · have hx : x.length = m' := by rw [← h1.length]; simp; omega
        rcases Nat.lt_or_ge j x.length with hj' | hj'
        · rw [List.getElem?_append_left hj'] at hj; exact h2 j v hj
        · rw [List.getElem?_append_right hj'] at hj
          have : j - x.length = 0 := by
            rcases Nat.lt_or_ge (j - x.length) 1 with h | h
            · omega
            · simp [List.getElem?_eq_none (show [u].length ≤ j - x.length by simpa using h)] at hj
          rw [this] at hj
          simp at hj
          subst hj
          obtain rfl : j = m' := by omega
          exact hu
  obtain ⟨x, h1, h2⟩ := this m (Nat.le_refl _)
  rw [List.take_of_length_le (by omega)] at h1
  exact ⟨x, h1, h2⟩
theorem run_cells {L : Loc} {o : Nat} {x : List Value} (h : ∀ j u, x[j]? = some u → w.cell? (L.adr (o + j)) = some u) : (loadCells (L.adr o) x.length).run P w = .ok x.toArray w :=
  run_loadCells_list (P := P) w (L.adr o) x fun j v hj => by rw [adr_add]; exact h j v hj
theorem partC_ok {ti : TI} {t : Nat} (ht : TyOK P t ti) {c : List AV} {o : Nat} {v : AV} {L : Loc} (hc : ∀ (i : Nat) (v : AV), c[i]? = some v → ∃ u, w.cell? (L.adr i) = some u ∧ RV ρ v u)
    (e : partC ti c o = some v) : ∃ u, (loadVar t (L.adr o)).run P w = .ok u w ∧ RV ρ v u := by
  unfold partC at e
  simp only [loadVar, Sem.run_bind, ht.isAgg, Result.andThen_ok]
  cases hag : ti.agg with
  | true =>
    rw [hag, bE_true] at e
    obtain ⟨l, hl, e⟩ := oE_none_eq e
    cases e
    obtain ⟨x, h1, h2⟩ := list_of_cells hc o ti.size hl
    have hx : x.length = ti.size := by rw [← h1.length]; exact sub_length hl
    refine ⟨.agg x.toArray, ?_, .agg _ _ (by simpa using h1)⟩
    have := run_cells (P := P) h2
    rw [hx] at this
    simp [ht.size, this]
  | false =>
    rw [hag, bE_false, nth_eq] at e
    obtain ⟨u, h1, h2⟩ := hc o v e
    exact ⟨u, by simp [h1], h2⟩
theorem load_ok (hE : EnvOK P E) {s : St} {t : Nat} {p : AV} {x : Value} {v : AV} (rh : RH B ρ G w) (hx : RV ρ p x) (e : load E s.h t p = some v)
    (hp : ∀ n ∈ refsV p, ∀ b, s.h.get n = some b → G n = some b) : ∃ u, (Instr.loadAt t x).run P w = .ok u w ∧ RV ρ v u := by
  unfold load at e
  obtain ⟨⟨n, o⟩, hpo, e1⟩ := oE_none_eq e
  obtain rfl := asPtr_eq hpo
  rw [pE_mk] at e1
  obtain ⟨c, hc, e2⟩ := oE_none_eq e1
  obtain ⟨ti, ht, e3⟩ := oE_none_eq e2
  obtain ⟨k, hk⟩ := cellsAt_eq hc
  cases hx with
  | ptr n o L hL =>
    have hG := hp n (by simp [refsV, asPtr, oE]) _ hk
    obtain ⟨u, h1, h2⟩ := partC_ok (hE.ty _ _ ht) (fun i v => read_cells rh hG hL i) e3
    exact ⟨u, by simpa [Instr.loadAt, Instr.sureAddr] using h1, h2⟩

/-! Writing. -/
theorem wcells_eq {h : Tr AB} {n : Nat} {k : BK} {c : List AV} (e : wcells h n = some (k, c)) : h.get n = some (.cells k c) ∧ k ≠ .ro := by
  obtain ⟨b, hb, e1⟩ := oE_none_eq e
  cases b with
  | cells k' c' => cases k' <;> simp at e1 <;> (obtain ⟨rfl, rfl⟩ := e1; exact ⟨hb, by simp⟩)
  | amap _ => simp at e1
  | siter _ _ => simp at e1
  | dead => simp at e1
theorem own_of {k : BK} {c : List AV} (h : k ≠ .ro) : (AB.cells k c).own = true := by cases k <;> first | rfl | exact absurd rfl h
theorem RB.writable {L : Loc} {k : BK} {c : List AV} (r : RB B ρ w L (.cells k c)) (h : k ≠ .ro) : B ≤ L.blk ∧ ∀ i, i < c.length → w.frozen? (L.adr i) = false := by
  cases k with
  | ro => exact absurd rfl h
  | fix => exact r.2
  | el => exact ⟨r.2.1, fun i hi => (r.2.2.2 i (Nat.lt_of_lt_of_le hi r.2.2.1)).1⟩
/-- Some cells of a block turned, in the evaluator and in the world. -/
theorem cells_upd {n : Nat} {L : Loc} {k : BK} {c c' : List AV} {o : Nat} {vs : List AV} {x : List Value} (rh : RH B ρ G w) (hG : G n = some (.cells k c)) (hL : ρ n = some L) (hk : k ≠ .ro)
    (hp : put vs o c = some c') (hx : RVs ρ vs x) : RH B ρ (upF G n (some (.cells k c'))) (w.setCells L.blk (L.base + o) x) := by
  obtain ⟨M, h1, hr⟩ := rh.blk n _ hG
  rw [hL] at h1; cases h1
  have hlen := put_length hp
  have hb := (put_eq _ _ _ _ hp).2
  have hxl := hx.length
  have hle := hr.ext_le
  refine rh.upd hG hL (own_of hk) (setCells_size _ _ _ _) (fun b hb => setCells_other _ _ _ _ _ hb) ?_ (fun i hi => ?_) (fun a => World.frozen?_setCells _ _ _ _ _) ?_ (fun i hi => ?_)
  · cases x with
    | nil => exact .inl rfl
    | cons u x =>
      refine .inr ⟨L.base + o, by omega, ?_⟩
      simp at hxl
      omega
  · refine World.cell?_setCells_out _ _ _ _ _ fun _ _ => ?_
    have : ¬ (L.base ≤ i ∧ i < L.base + ext' L k c) := hi
    simp only
    omega
  · have hext : ext' L k c' = ext' L k c := by cases k <;> simp [ext', hlen]
    have hin : ∀ i, i < c.length → ∃ u, w.cell? (L.adr i) = some u := fun i hi => by
      obtain ⟨u, hu, _⟩ := hr.1 i c[i] (by simp [hi])
      exact ⟨u, hu⟩
    have hcell : ∀ (i : Nat) (v : AV), c'[i]? = some v → ∃ u, (w.setCells L.blk (L.base + o) x).cell? (L.adr i) = some u ∧ RV ρ v u := by
      intro i v hv
      rw [put_get hp] at hv
      split at hv
      · next hi =>
        obtain ⟨u, hu, hr'⟩ := hx.get (i - o) hv
        refine ⟨u, ?_, hr'⟩
        have hj : i - o < x.length := by omega
        have := World.cell?_setCells_in L.blk x (L.base + o) w (fun j hj => by
          obtain ⟨u, hu⟩ := hin (o + j) (by omega)
          unfold Loc.adr at hu
          rw [Nat.add_assoc, hu]; rfl) (i - o) hj
        unfold Loc.adr
        rw [show L.base + i = L.base + o + (i - o) by omega, this]
        rw [List.getElem?_eq_getElem hj] at hu
        exact hu
      · next hi =>
        obtain ⟨u, hu, hr'⟩ := hr.1 i v hv
        refine ⟨u, ?_, hr'⟩
        rw [World.cell?_setCells_out]
        · exact hu
        · intro _ _; unfold Loc.adr; simp only; omega
    refine ⟨hcell, ?_⟩
    have h2 := hr.2
    cases k with
    | ro => exact absurd rfl hk
    | fix => exact ⟨h2.1, fun i hi => by rw [World.frozen?_setCells]; exact h2.2 i (by omega)⟩
    | el =>
      refine ⟨h2.1, by rw [hlen]; exact h2.2.1, fun i hi => ⟨by rw [World.frozen?_setCells]; exact (h2.2.2 i hi).1, ?_⟩⟩
      rcases Nat.lt_or_ge i c'.length with hi' | hi'
      · obtain ⟨u, hu, _⟩ := hcell i c'[i] (by simp [hi'])
        exact ⟨u, hu⟩
      · rw [World.cell?_setCells_out]
        · exact (h2.2.2 i hi).2
        · intro _ _; unfold Loc.adr; simp only; omega
  · have hext : ext' L k c' = ext' L k c := by cases k <;> simp [ext', hlen]
    have : L.base ≤ i ∧ i < L.base + ext' L k c' := hi
    exact ⟨this.1, by rw [hext] at this; exact this.2⟩
/-- The run of a store of some cells. -/
theorem run_put {n : Nat} {L : Loc} {k : BK} {c c' : List AV} {o : Nat} {vs : List AV} {x : List Value} (rh : RH B ρ G w) (hG : G n = some (.cells k c)) (hL : ρ n = some L) (hk : k ≠ .ro)
    (hp : put vs o c = some c') (hx : RVs ρ vs x) (hs : scals vs = true) : (storeCells (L.adr o) x).run P w = .ok () (w.setCells L.blk (L.base + o) x) := by
  obtain ⟨M, h1, hr⟩ := rh.blk n _ hG
  rw [hL] at h1; cases h1
  have hb := (put_eq _ _ _ _ hp).2
  have hxl := hx.length
  have := run_storeCells_cells (P := P) L.blk (L.base + o) x 0 w (fun j hj => by
      obtain ⟨u, hu, _⟩ := hr.1 (o + j) c[o + j] (by simp)
      unfold Loc.adr at hu
      rw [show L.base + o + 0 + j = L.base + (o + j) by omega, hu]; rfl) (fun j hj => by
      have := (hr.writable hk).2 (o + j) (by omega)
      unfold Loc.adr at this
      rw [show L.base + o + 0 + j = L.base + (o + j) by omega]; exact this) (scals_one hx hs)
  simpa [Loc.adr] using this
theorem storeC_ok {s : St} {r v : AV} {n o c : Nat} {vs : List AV} {h : Tr AB} {tl : List Nat} {L : Loc} {x : List Value} (rh : RH B ρ G w) (hL : ρ n = some L) (hx : RVs ρ vs x)
    (e : storeC s r n o vs = .ok v h c tl) (hp : ∀ b, s.h.get n = some b → G n = some b) :
    (storeCells (L.adr o) x).run P w = .ok () (w.setCells L.blk (L.base + o) x) ∧ v = r ∧ ∀ u, RV ρ r u →
      AftO B ρ G w s v h c tl u ρ (upF G n (h.get n)) (w.setCells L.blk (L.base + o) x) := by
  unfold storeC at e
  obtain ⟨⟨k, cs⟩, hk, e1⟩ := oE_no_eq e
  rw [pE_mk] at e1
  obtain ⟨c', hc', e2⟩ := oE_no_eq e1
  obtain ⟨hs, e3⟩ := bE_no_eq e2
  rw [upd_eq] at e3
  obtain ⟨hg, hro⟩ := wcells_eq hk
  have hG := hp _ hg
  cases e3
  have hB : B ≤ L.blk := by
    obtain ⟨M, h1, hr⟩ := rh.blk n _ hG
    rw [hL] at h1; cases h1
    exact (hr.writable hro).1
  refine ⟨run_put rh hG hL hro hc' hx hs, rfl, fun u hu => ?_⟩
  rw [Tr.get_set, if_pos rfl]
  exact AftO.upd hG hL (own_of hro) (fun k hk _ => setCells_other _ _ _ _ _ hk) (cells_upd rh hG hL hro hc' hx) hu (setCells_below _ hB _ _ _)
theorem store_ok (hE : EnvOK P E) {s : St} {t : Nat} {p v r : AV} {x y : Value} {h : Tr AB} {c : Nat} {tl : List Nat} (rh : RH B ρ G w) (hx : RV ρ p x) (hy : RV ρ v y)
    (e : store E s t v p = .ok r h c tl) (hp : ∀ n ∈ refsV p, ∀ b, s.h.get n = some b → G n = some b) :
    ∃ w' G', (Instr.storeAt t x y).run P w = .ok () w' ∧ AftO B ρ G w s r h c tl undef ρ G' w' := by
  unfold store at e
  obtain ⟨⟨n, o⟩, hpo, e1⟩ := oE_no_eq e
  obtain rfl := asPtr_eq hpo
  rw [pE_mk] at e1
  obtain ⟨ti, ht, e2⟩ := oE_no_eq e1
  obtain ⟨cs, hcs, e3⟩ := oE_no_eq e2
  obtain ⟨hl, e4⟩ := bE_no_eq e3
  cases hx with
  | ptr n o L hL =>
    have hcx := cellsO_rv hy hcs
    obtain ⟨h1, h2, h3⟩ := storeC_ok (P := P) rh hL hcx e4 (hp n (by simp [refsV, asPtr, oE]))
    subst h2
    refine ⟨_, _, ?_, h3 undef (.tup [] #[] .nil)⟩
    have hsz := beq_true hl
    rw [len_eq, hcx.length] at hsz
    simp only [Instr.storeAt, Instr.sureAddr, storeVar, Sem.run_bind, Sem.run_pure, Result.andThen_ok, (hE.ty _ _ ht).size]
    rw [if_neg (by simpa using hsz)]
    simpa using h1
end
end Go.Ab
namespace Go.Ab
open Go.RowKit (Below)
section
variable {P : Program} {E : Env} {B : Nat} {ρ : Rho} {G : Hp} {w : World}

/-! Aggregates. -/
theorem fold_set (off : Nat) : ∀ (xs : List Value) (k : Nat) (C : Array Value) (i : Nat), off + k + xs.length ≤ C.size →
    ((xs.zipIdx k).foldl (fun (cs : Array Value) (p : Value × Nat) => cs.setIfInBounds (off + p.2) p.1) C)[i]? = if off + k ≤ i ∧ i < off + k + xs.length then xs[i - (off + k)]? else C[i]?
  | [], k, C, i, h => by simp; omega
  | x :: xs, k, C, i, h => by
    simp only [List.zipIdx_cons, List.foldl_cons]
    rw [fold_set off xs (k + 1) _ i (by simp at h ⊢; omega)]
    simp at h
    by_cases h1 : off + (k + 1) ≤ i ∧ i < off + (k + 1) + xs.length
    · rw [if_pos h1, if_pos (by simp; omega)]
      rw [show i - (off + k) = (i - (off + (k + 1))) + 1 by omega]; rfl
    · rw [if_neg h1, Array.getElem?_setIfInBounds]
      by_cases h2 : off + k = i
      · rw [if_pos h2, if_pos (by omega), if_pos (by simp; omega)]
        subst h2; simp
      · rw [if_neg h2, if_neg (by simp; omega)]
theorem fold_set_rv {off : Nat} {xs : Array Value} {vs : List AV} {C : Array Value} {c c' : List AV} (hx : RVs ρ vs xs.toList) (hc : RVs ρ c C.toList) (hp : put vs off c = some c') :
    RVs ρ c' (xs.zipIdx.foldl (fun (cs : Array Value) (p : Value × Nat) => cs.setIfInBounds (off + p.2) p.1) C).toList := by
  have hb := (put_eq _ _ _ _ hp).2
  have hl := put_length hp
  have hxl := hx.length
  have hcl := hc.length
  simp at hxl hcl
  have hget : ∀ i, (xs.zipIdx.foldl (fun (cs : Array Value) (p : Value × Nat) => cs.setIfInBounds (off + p.2) p.1) C)[i]? = if off ≤ i ∧ i < off + xs.size then xs[i - off]? else C[i]? := by
    intro i
    have := fold_set off xs.toList 0 C i (by simp; omega)
    rw [← Array.foldl_toList, Array.toList_zipIdx]
    simpa using this
  refine RVs.of_get ?_ fun i v hv => ?_
  · have hsz : ∀ (l : List (Value × Nat)) (C : Array Value), (l.foldl (fun (cs : Array Value) (p : Value × Nat) => cs.setIfInBounds (off + p.2) p.1) C).size = C.size := by
      intro l
      induction l with
      | nil => exact fun _ => rfl
      | cons a l ih => intro C; rw [List.foldl_cons, ih]; simp
    have h1 : (xs.zipIdx.foldl (fun (cs : Array Value) (p : Value × Nat) => cs.setIfInBounds (off + p.2) p.1) C).toList.length = C.size := by
      rw [← Array.foldl_toList, Array.length_toList, hsz]
    show c'.length = _
    omega
  · rw [put_get hp] at hv
    rw [Array.getElem?_toList, hget]
    by_cases h : off ≤ i ∧ i < off + vs.length
    · rw [if_pos h] at hv
      rw [if_pos (by omega)]
      obtain ⟨u, hu, hr⟩ := hx.get _ hv
      exact ⟨u, by simpa using hu, hr⟩
    · rw [if_neg h] at hv
      rw [if_neg (by omega)]
      obtain ⟨u, hu, hr⟩ := hc.get _ hv
      exact ⟨u, by simpa using hu, hr⟩
theorem fills_ok {place placeC : Nat → Option (Nat × Nat)} (hpl : ∀ i p, place i = some p → placeC i = some p) : ∀ (l : List (Nat × AV)) (L : List (Nat × Value)) (c c' : List AV) (C : Array Value),
    l.map (·.1) = L.map (·.1) → RVs ρ (l.map (·.2)) (L.map (·.2)) → RVs ρ c C.toList → fills place l c = some c' → ∃ C', Instr.fill placeC C L = some C' ∧ RVs ρ c' C'.toList
  | [], [], c, c', C, _, _, hc, e => by cases e; exact ⟨C, rfl, hc⟩
  | [], _ :: _, _, _, _, h, _, _, _ => by simp at h
  | _ :: _, [], _, _, _, h, _, _, _ => by simp at h
  | (i, v) :: l, (j, u) :: L, c, c', C, h, hv, hc, e => by
    simp at h
    obtain ⟨rfl, h⟩ := h
    cases hv with
    | cons h1 h2 =>
      obtain ⟨c1, hc1, e1⟩ := oE_none_eq (show oE (oE (place i) none (fill1 c v)) none (fills place l) = some c' from e)
      obtain ⟨⟨off, size⟩, hp, e2⟩ := oE_none_eq hc1
      obtain ⟨cs, hcs, e3⟩ := oE_none_eq (show oE (cellsO v) none (fun cs => bE (Nat.beq (len cs) size) (put cs off c) none) = some c1 from e2)
      obtain ⟨hl, e4⟩ := bE_none_eq e3
      have hx := cellsO_rv h1 hcs
      have hl' := beq_true hl
      have hxl := hx.length
      rw [len_eq] at hl'
      simp at hxl
      have hb := (put_eq _ _ _ _ e4).2
      have hcl := hc.length
      simp at hcl
      obtain ⟨C', h3, h4⟩ := fills_ok hpl l L c1 c' _ h h2 (fold_set_rv hx hc e4) e1
      refine ⟨C', ?_, h4⟩
      simp only [Instr.fill, hpl _ _ hp]
      rw [if_neg (by simp; omega)]
      exact h3
theorem mapM_run {α β : Type} {P : Program} {f : α → Sem β} {g : α → β} {w : World} : ∀ (l : List α), (∀ a ∈ l, (f a).run P w = .ok (g a) w) → (l.mapM f).run P w = .ok (l.map g) w
  | [], _ => rfl
  | a :: l, h => by
    rw [List.mapM_cons]
    simp [h a (by simp), mapM_run l (fun b hb => h b (by simp [hb]))]
theorem mapM_runA {α β : Type} {P : Program} {f : α → Sem β} {g : α → β} {w : World} (l : Array α) (h : ∀ a ∈ l, (f a).run P w = .ok (g a) w) : (l.mapM f).run P w = .ok (l.map g) w := by
  rw [Array.mapM_eq_mapM_toList]
  simp only [Sem.run_map, mapM_run l.toList (fun a ha => h a (by simpa using ha)), Result.andThen_ok]
  congr 1
  apply Array.toList_inj.1
  simp
theorem fieldsOf_eq {ti : TI} {fs : List (Nat × Nat)} (e : fieldsOf ti = some fs) : ti.d = .st fs := by
  unfold fieldsOf at e
  split at e <;> cases e
  assumption
/-- what the tables say of a field -/
theorem fieldOf_ok (hE : EnvOK P E) {t f off : Nat} {fi : TI} (e : fieldOf E t f = some (off, fi)) :
    ∃ (gs : Array Field) (g : Field), P.underlying t = some (.struct gs) ∧ gs[f]? = some g ∧ g.offset = off ∧ TyOK P g.type fi := by
  obtain ⟨ti, ht, e1⟩ := oE_none_eq e
  obtain ⟨fs, hfs, e2⟩ := oE_none_eq e1
  obtain ⟨⟨ft, o⟩, hn, e3⟩ := oE_none_eq e2
  rw [pE_mk] at e3
  obtain ⟨fi', hfi, e4⟩ := oE_none_eq e3
  cases e4
  obtain ⟨d, h1, h2, _, _⟩ := (hE.ty _ _ ht).und
  rw [fieldsOf_eq hfs] at h2
  obtain ⟨gs, rfl⟩ : ∃ gs, d = .struct gs := by cases d <;> simp [DR] at h2 ⊢
  simp only [DR] at h2
  rw [nth_eq, h2] at hn
  simp at hn
  obtain ⟨g, hg, h3, h4⟩ := hn
  exact ⟨gs, g, h1, hg, h4, by rw [h3]; exact hE.ty _ _ hfi⟩
theorem buildA_ok (hE : EnvOK P E) {t : Nat} {ti : TI} (ht : E.ty.get t = some ti) {l : List (Nat × AV)} {L : Array (Nat × Value)} {v : AV}
    (h1 : l.map (·.1) = L.toList.map (·.1)) (h2 : RVs ρ (l.map (·.2)) (L.toList.map (·.2))) (e : buildA E t ti l = some v) : ∃ u, (Instr.build t L).run P w = .ok u w ∧ RV ρ v u := by
  have hT := hE.ty _ _ ht
  obtain ⟨z, hz, _, hzr⟩ := hT.zero
  obtain ⟨d, hd1, hd2, _, hd3⟩ := hT.und
  unfold buildA at e
  split at e
  · next fs hfs =>
    obtain ⟨c, hc, e1⟩ := oE_none_eq e
    cases e1
    rw [hfs] at hd2
    obtain ⟨gs, rfl⟩ : ∃ gs, d = .struct gs := by cases d <;> simp [DR] at hd2 ⊢
    simp only [DR] at hd2
    · have hsz : ∀ g ∈ gs, ((fun f : Field => do Pure.pure (f.offset, ← sizeOf f.type) : Field → Sem (Nat × Nat)) g).run P w = .ok (g.offset, P.cellsOf g.type) w := by
        intro g hg
        have := hT.fld fs hfs (g.type, g.offset) (by rw [hd2]; exact List.mem_map.2 ⟨g, by simpa using hg, rfl⟩)
        obtain ⟨i, hi⟩ := Option.isSome_iff_exists.1 this
        simp [run_sizeOf w hi]
      have hpl : ∀ i p, placeS E t i = some p → ((gs.map fun g => (g.offset, P.cellsOf g.type))[·]?) i = some p := by
        intro i p hp
        obtain ⟨⟨off, fi⟩, hf, e2⟩ := oE_none_eq hp
        cases (show some (off, fi.size) = some p from e2)
        obtain ⟨gs', g, h3, h4, h5, h6⟩ := fieldOf_ok hE hf
        rw [hd1] at h3; cases h3
        obtain ⟨f, _, _, h7, h8, _⟩ := h6.inf
        simp [h4, h5, Program.cellsOf, h7, h8]
      obtain ⟨C', h3, h4⟩ := fills_ok (ρ := ρ) hpl l L.toList ti.z c z.cells h1 h2 (hz ρ) hc
      refine ⟨.agg C', ?_, .agg _ _ h4⟩
      simp only [Instr.build, Sem.run_bind, hzr, hd3, Result.andThen_ok]
      erw [mapM_runA gs hsz]
      simp only [Result.andThen_ok]
      rw [h3]
      rfl
  · next n ety hd =>
    obtain ⟨sz, hsz, e1⟩ := oE_none_eq e
    obtain ⟨c, hc, e2⟩ := oE_none_eq e1
    cases e2
    rw [hd] at hd2
    obtain ⟨m, f, rfl⟩ : ∃ m f, d = .array m f := by cases d <;> simp [DR] at hd2 ⊢
    simp only [DR] at hd2
    · obtain ⟨rfl, rfl⟩ := hd2
      obtain ⟨ei, hei, e3⟩ := oE_none_eq hsz
      cases e3
      have := (hE.ty _ _ hei).size w
      obtain ⟨C', h3, h4⟩ := fills_ok (ρ := ρ) (place := placeA ei.size) (placeC := fun i => some (i * ei.size, ei.size)) (fun i p h => h) l L.toList ti.z c z.cells h1 h2 (hz ρ) hc
      refine ⟨.agg C', ?_, .agg _ _ h4⟩
      simp only [Instr.build, Sem.run_bind, hzr, hd3, Result.andThen_ok, this]
      rw [h3]
      rfl
  · cases e

theorem elemT_ok (hE : EnvOK P E) {t : Nat} {ei : TI} (e : elemT E t = some ei) : ∃ el, P.underlying t = some (.slice el) ∧ TyOK P el ei := by
  obtain ⟨ti, ht, e1⟩ := oE_none_eq e
  obtain ⟨el, hel, e2⟩ := oE_none_eq e1
  obtain ⟨d, h1, h2, _, _⟩ := (hE.ty _ _ ht).und
  have hd : ti.d = .sl el := by
    unfold elemI at hel
    split at hel <;> cases hel
    assumption
  rw [hd] at h2
  obtain ⟨f, rfl⟩ : ∃ f, d = .slice f := by cases d <;> simp [DR] at h2 ⊢
  simp only [DR] at h2
  subst h2
  exact ⟨f, h1, hE.ty _ _ e2⟩
theorem reps_rv {z : List AV} {Z : Array Value} (hz : RVs ρ z Z.toList) (n : Nat) : RVs ρ (reps z n) ((Array.range (n * Z.size)).map fun i => Z[i % Z.size]!).toList := by
  have hl := hz.length
  simp at hl
  refine RVs.of_get (by rw [reps_length]; simp [hl]) fun i v hv => ?_
  have hi : i < n * z.length := by rw [← reps_length z n]; exact (List.getElem?_eq_some_iff.1 hv).1
  have hpos : 0 < z.length := by
    rcases Nat.eq_zero_or_pos z.length with h | h
    · rw [h] at hi; simp at hi
    · exact h
  have hmod : i % z.length < z.length := Nat.mod_lt _ hpos
  have key : ∀ (n i : Nat) (v : AV), (reps z n)[i]? = some v → z[i % z.length]? = some v := by
    intro n
    induction n with
    | zero => intro i v h; simp [show reps z 0 = [] from rfl] at h
    | succ n ih =>
      intro i v h
      rw [show reps z (n + 1) = z ++ reps z n from rfl] at h
      rcases Nat.lt_or_ge i z.length with hlt | hge
      · rw [List.getElem?_append_left hlt] at h
        rw [Nat.mod_eq_of_lt hlt]; exact h
      · rw [List.getElem?_append_right hge] at h
        have := ih _ _ h
        rwa [← Nat.mod_eq_sub_mod hge] at this
  obtain ⟨u, hu, hr⟩ := hz.get _ (key n i v hv)
  refine ⟨u, ?_, hr⟩
  have : i % Z.size < Z.size := by rw [← hl]; exact hmod
  rw [hl] at hu
  simp only [Array.getElem?_toList] at hu
  simp only [Array.toList_map, Array.toList_range, List.getElem?_map, List.getElem?_range (show i < n * Z.size by rw [← hl]; exact hi), Option.map_some]
  rw [Array.getElem?_eq_getElem this] at hu
  rw [getElem!_pos Z _ this]
  exact hu
/-- the cells of a block that lies alone in a new block of the world's -/
theorem RB.fresh {ρ' : Rho} {k : BK} {K : Nat} {c : List AV} {C : Array Value} {t : TypeId} (hB : B ≤ w.heap.size)
    (h : ∀ (i : Nat) (v : AV), c[i]? = some v → ∃ u, C[i]? = some u ∧ RV ρ' v u) (hk : k = .fix ∨ (k = .el ∧ c.length ≤ K ∧ K ≤ C.size)) :
    RB B ρ' (w.alloc (.cells C t)) ⟨w.heap.size, 0, K, undef, 0⟩ (.cells k c) := by
  have hadr : ∀ i, (Loc.mk w.heap.size 0 K undef 0).adr i = ⟨w.heap.size, i, none⟩ := fun i => by simp [Loc.adr]
  refine ⟨fun i v hv => ?_, ?_⟩
  · obtain ⟨u, hu, hr⟩ := h i v hv
    exact ⟨u, by rw [hadr, World.cell?_alloc_new]; exact hu, hr⟩
  · rcases hk with rfl | ⟨rfl, h1, h2⟩
    · exact ⟨hB, fun i _ => by rw [hadr]; exact World.frozen?_alloc_new _ _ _ _⟩
    · refine ⟨hB, h1, fun i hi => ⟨by rw [hadr]; exact World.frozen?_alloc_new _ _ _ _, ?_⟩⟩
      have hi' : i < C.size := Nat.lt_of_lt_of_le hi h2
      exact ⟨C[i], by rw [hadr, World.cell?_alloc_new]; simp [hi']⟩
/-- A new row of cells, all of them known. -/
theorem new_ok {u : Value} {s : St} {c : List AV} {f : Nat → AV} {C : Array Value} {t : TypeId} {v : AV} {h : Tr AB} {c' : Nat} {tl : List Nat} (rh : RH B ρ G w) (hB : B ≤ w.heap.size)
    (hc : RVs ρ c C.toList) (e : new s .fix c f = .ok v h c' tl) (fr : ∀ n, s.c ≤ n → n < c' → ρ n = none)
    (hf : ∀ ρ' : Rho, ρ' s.c = some ⟨w.heap.size, 0, 0, undef, 0⟩ → ρ.le ρ' → RV ρ' (f s.c) u) :
    ∃ ρ' G', (newRow t C).run P w = .ok ⟨w.heap.size, 0, none⟩ (w.alloc (.cells C t)) ∧ AftO B ρ G w s v h c' tl u ρ' G' (w.alloc (.cells C t)) := by
  rw [show new s .fix c f = newO s (.cells .fix c) f from rfl, newO_eq] at e
  cases e
  have fr' := fr s.c (Nat.le_refl _) (Nat.lt_succ_self _)
  have hle := le_upF fr' ⟨w.heap.size, 0, 0, undef, 0⟩
  have hc' := hc.mono hle
  refine ⟨_, _, ?_, AftO.new rh hB fr' (.cells C t) 0 (hf _ (upF_same _ _ _) hle) (RB.fresh hB (fun i v hv => by simpa using hc'.get i hv) (.inl rfl))⟩
  rfl
theorem oAlloc_ok (hE : EnvOK P E) {s : St} {t : Nat} {v : AV} {h : Tr AB} {c : Nat} {tl : List Nat} (rh : RH B ρ G w) (hB : B ≤ w.heap.size) (e : oAlloc E s t = .ok v h c tl)
    (fr : ∀ n, s.c ≤ n → n < c → ρ n = none) : ∃ u w' ρ' G', (Instr.alloc t true (.tuple #[])).run P w = .ok u w' ∧ AftO B ρ G w s v h c tl u ρ' G' w' := by
  unfold oAlloc at e
  obtain ⟨ti, ht, e1⟩ := oE_no_eq e
  obtain ⟨z, hz, _, hzr⟩ := (hE.ty _ _ ht).zero
  obtain ⟨ρ', G', h1, h2⟩ := new_ok (P := P) (t := t) (u := .pointer (some ⟨w.heap.size, 0, none⟩)) rh hB (hz ρ) e1 fr (fun ρ' hρ _ => by
    have := RV.ptr (ρ := ρ') s.c 0 _ hρ
    simpa [Loc.adr, ptr0] using this)
  exact ⟨_, _, ρ', G', by simp [Instr.alloc, hzr, newVar, h1], h2⟩
theorem oBox_ok {s : St} {t : Nat} {x : AV} {y : Value} {cs : List AV} {v : AV} {h : Tr AB} {c : Nat} {tl : List Nat} (rh : RH B ρ G w) (hB : B ≤ w.heap.size) (hx : RV ρ x y) (hcs : cellsO x = some cs)
    (e : new s .fix cs ptr0 = .ok v h c tl) (fr : ∀ n, s.c ≤ n → n < c → ρ n = none) : ∃ u w' ρ' G', (Instr.box t y).run P w = .ok u w' ∧ AftO B ρ G w s v h c tl u ρ' G' w' := by
  obtain ⟨ρ', G', h1, h2⟩ := new_ok (P := P) (t := t) (u := .pointer (some ⟨w.heap.size, 0, none⟩)) rh hB (cellsO_rv hx hcs) e fr (fun ρ' hρ _ => by
    have := RV.ptr (ρ := ρ') s.c 0 _ hρ
    simpa [Loc.adr, ptr0] using this)
  exact ⟨_, _, ρ', G', by simp [Instr.box, newVar, h1], h2⟩
theorem oBuildSlice_ok (hE : EnvOK P E) {s : St} {t n : Nat} {ei : TI} {l : List (Nat × AV)} {L : Array (Nat × Value)} {cs : List AV} {v : AV} {h : Tr AB} {c : Nat} {tl : List Nat} (rh : RH B ρ G w) (hB : B ≤ w.heap.size)
    (ht : elemT E t = some ei) (h1 : l.map (·.1) = L.toList.map (·.1)) (h2 : RVs ρ (l.map (·.2)) (L.toList.map (·.2))) (hn : n * ei.size ≤ 16777216)
    (hf : fills (placeA ei.size) l (reps ei.z n) = some cs) (e : new s .fix cs (sl0 n) = .ok v h c tl) (fr : ∀ n, s.c ≤ n → n < c → ρ n = none) :
    ∃ u w' ρ' G', (Instr.buildSlice t n L).run P w = .ok u w' ∧ AftO B ρ G w s v h c tl u ρ' G' w' := by
  obtain ⟨el, hel, hT⟩ := elemT_ok hE ht
  obtain ⟨z, hz, _, hzr⟩ := hT.zero
  have hzl := (hz ρ).length
  have hzz := hT.zlen
  simp at hzl
  obtain ⟨C', h3, h4⟩ := fills_ok (ρ := ρ) (place := placeA ei.size) (placeC := fun i => some (i * ei.size, ei.size)) (fun i p h => h) l L.toList (reps ei.z n) cs
    ((Array.range (n * ei.size)).map fun i => (if n * ei.size = 0 then #[] else z.cells)[i % (if n * ei.size = 0 then #[] else z.cells).size]!) h1 h2 (by
      by_cases h0 : n * ei.size = 0
      · have : reps ei.z n = [] := List.eq_nil_of_length_eq_zero (by rw [reps_length, hzz]; exact h0)
        rw [this, h0]; simp; exact .nil
      · simp only [if_neg h0]
        have := reps_rv (hz ρ) n
        rwa [show z.cells.size = ei.size by omega] at this ⊢) hf
  obtain ⟨ρ', G', h5, h6⟩ := new_ok (P := P) (t := el) (u := .slice (some ⟨w.heap.size, 0, none⟩) n n) rh hB h4 e fr (fun ρ' hρ _ => by
    have := RV.slf (ρ := ρ') s.c 0 n n _ hρ
    simpa [Loc.adr, sl0] using this)
  refine ⟨_, _, ρ', G', ?_, h6⟩
  simp only [Instr.buildSlice, Sem.run_bind, run_underlying hel, hT.size, Result.andThen_ok]
  rw [if_neg (by omega)]
  by_cases h0 : n * ei.size = 0
  · simp only [h0, if_true] at h3 ⊢
    simp only [Sem.run_bind, Sem.run_pure, Result.andThen_ok, h3, h5]
  · simp only [if_neg h0] at h3 ⊢
    simp only [Sem.run_bind, Sem.run_pure, Result.andThen_ok, hzr, h3, h5]
end
end Go.Ab
namespace Go.Ab
open Go.RowKit (Below)
section
variable {P : Program} {E : Env} {B : Nat} {ρ : Rho} {G : Hp} {w : World}

/-! Addresses, parts. -/
theorem fAddr_ok (hE : EnvOK P E) {t f off : Nat} {fi : TI} {x v : AV} {y : Value} (hx : RV ρ x y) (hf : fieldOf E t f = some (off, fi)) (e : fAddr off fi.size x = some v) :
    ∃ u, (Instr.fieldAt t y f).run P w = .ok u w ∧ RV ρ v u := by
  obtain ⟨⟨n, o⟩, hp, e1⟩ := oE_none_eq e
  obtain rfl := asPtr_eq hp
  rw [pE_mk] at e1
  obtain ⟨hz, e2⟩ := bE_none_eq' e1
  rw [fN_eq] at e2
  cases e2
  obtain ⟨gs, g, h1, h2, h3, h4⟩ := fieldOf_ok hE hf
  cases hx with
  | ptr n o L hL =>
    refine ⟨.pointer (some (L.adr (o + off))), ?_, .ptr n (Nat.add o off) L hL⟩
    have := h4.size w
    simp only [Instr.fieldAt, Sem.run_bind, run_underlying h1, Result.andThen_ok, h2, Instr.sureAddr, Sem.run_pure, fieldPlace, this]
    rw [if_neg (beq_false hz)]
    simp [adr_add, h3]
theorem part_ok {ti : TI} {t : Nat} (ht : TyOK P t ti) {c : List AV} {C : Array Value} {o : Nat} {v : AV} (hc : RVs ρ c C.toList) (e : partC ti c o = some v) :
    ∃ u, (part t C o).run P w = .ok u w ∧ RV ρ v u := by
  unfold partC at e
  simp only [part, Sem.run_bind, ht.isAgg, Result.andThen_ok]
  cases hag : ti.agg with
  | true =>
    rw [hag, bE_true] at e
    obtain ⟨l, hl, e1⟩ := oE_none_eq e
    cases e1
    obtain ⟨rfl, hle⟩ := sub_eq hl
    refine ⟨.agg (C.extract o (o + ti.size)), by simp [ht.size], .agg _ _ ?_⟩
    have := (hc.drop o).take ti.size
    have e2 : (C.extract o (o + ti.size)).toList = (C.toList.drop o).take ti.size := by
      simp
    rw [e2]
    exact this
  | false =>
    rw [hag, bE_false, nth_eq] at e
    obtain ⟨u, h1, h2⟩ := hc.get o e
    simp at h1
    exact ⟨u, by simp [h1], h2⟩
theorem fPart_ok (hE : EnvOK P E) {t f off : Nat} {fi : TI} {x v : AV} {y : Value} (hx : RV ρ x y) (hf : fieldOf E t f = some (off, fi)) (e : fPart off fi x = some v) :
    ∃ u, (Instr.field t y f).run P w = .ok u w ∧ RV ρ v u := by
  unfold fPart at e
  split at e
  · cases hx with
    | agg l C hc =>
      obtain ⟨gs, g, h1, h2, h3, h4⟩ := fieldOf_ok hE hf
      obtain ⟨u, h5, h6⟩ := part_ok (w := w) h4 hc e
      refine ⟨u, ?_, h6⟩
      simp only [Instr.field, Sem.run_bind, run_underlying h1, Result.andThen_ok, h2, Go.asAgg, Sem.run_pure, h3, h5]
  · cases e
theorem inN_eq {v : AV} {i : Nat} (e : inN v = some i) : ∃ k, v = .int k (.ofNat i) := by
  unfold inN at e
  split at e <;> cases e
  exact ⟨_, rfl⟩
theorem sizeT_ok (hE : EnvOK P E) {t z : Nat} (e : sizeT E t = some z) : ∃ ti, E.ty.get t = some ti ∧ ti.size = z ∧ TyOK P t ti := by
  obtain ⟨ti, ht, e1⟩ := oE_none_eq e
  cases e1
  exact ⟨ti, ht, rfl, hE.ty _ _ ht⟩
theorem ixS_eq (hE : EnvOK P E) {ety n o l i : Nat} {v : AV} (e : ixS E ety n o l i = some v) : ∃ z, v = .ptr n (o + i * z) ∧ i < l ∧ ∀ w, (sizeOf ety).run P w = .ok z w := by
  obtain ⟨h1, e1⟩ := bE_none_eq e
  obtain ⟨z, hz, e2⟩ := oE_none_eq e1
  cases e2
  obtain ⟨ti, _, rfl, h2⟩ := sizeT_ok hE hz
  exact ⟨_, rfl, ble_true h1, h2.size⟩
theorem indexAddr_ok (hE : EnvOK P E) {t : Nat} {x ix v : AV} {y j : Value} (hx : RV ρ x y) (hj : RV ρ ix j) (e : indexAddr E t x ix = some v) :
    ∃ u, (Instr.indexAt t y j).run P w = .ok u w ∧ RV ρ v u := by
  obtain ⟨ti, ht, e1⟩ := oE_none_eq e
  obtain ⟨i, hi, e2⟩ := oE_none_eq e1
  obtain ⟨k, rfl⟩ := inN_eq hi
  cases hj
  obtain ⟨d, hd1, hd2, _, hd3⟩ := (hE.ty _ _ ht).und
  unfold ixA at e2
  split at e2
  · next ety n o l cap hd =>
    rw [hd] at hd2
    obtain ⟨f, rfl⟩ : ∃ f, d = .slice f := by cases d <;> simp [DR] at hd2 ⊢
    simp only [DR] at hd2
    subst hd2
    obtain ⟨z, rfl, hlt, hz⟩ := ixS_eq hE e2
    have hb : (0 : Int) ≤ (Int.ofNat i) ∧ (Int.ofNat i) < (l : Int) := ⟨Int.natCast_nonneg i, by simpa using hlt⟩
    cases hx with
    | slf n o l c L hL =>
      refine ⟨.pointer (some (L.adr (o + i * z))), ?_, .ptr n _ L hL⟩
      simp only [Instr.indexAt, asIntOf, Sem.run_bind, Sem.run_pure, Result.andThen_ok, hd3]
      rw [if_pos hb]
      simp [hz, adr_add]
    | sle n o l z' cap L hL h1 h2 =>
      refine ⟨.pointer (some (L.adr (o + i * z))), ?_, .ptr n _ L hL⟩
      simp only [Instr.indexAt, asIntOf, Sem.run_bind, Sem.run_pure, Result.andThen_ok, hd3]
      rw [if_pos hb]
      simp [hz, adr_add]
    | slz n o z' L a hL h1 h2 => omega
    | slx n o a h1 => omega
  · next l ety n o hd =>
    rw [hd] at hd2
    obtain ⟨m, f, rfl⟩ : ∃ m f, d = .array m f := by cases d <;> simp [DR] at hd2 ⊢
    simp only [DR] at hd2
    obtain ⟨rfl, rfl⟩ := hd2
    obtain ⟨z, rfl, hlt, hz⟩ := ixS_eq hE e2
    have hb : (0 : Int) ≤ (Int.ofNat i) ∧ (Int.ofNat i) < (m : Int) := ⟨Int.natCast_nonneg i, by simpa using hlt⟩
    cases hx with
    | ptr n o L hL =>
      refine ⟨.pointer (some (L.adr (o + i * z))), ?_, .ptr n _ L hL⟩
      simp only [Instr.indexAt, asIntOf, Sem.run_bind, Sem.run_pure, Result.andThen_ok, hd3, Instr.sureAddr]
      rw [if_pos hb]
      simp [hz, adr_add]
  · cases e2
theorem bytes_get {s : ByteArray} {i b : Nat} (h : (bytesOf s)[i]? = some b) : ∃ (hi : i < s.size), s[i].toNat = b := by
  unfold bytesOf at h
  simp at h
  obtain ⟨x, hx, rfl⟩ := h
  obtain ⟨hi, rfl⟩ := Array.getElem?_eq_some_iff.1 hx
  exact ⟨hi, rfl⟩
theorem bytesOf_length (s : ByteArray) : (bytesOf s).length = s.size := by simp [bytesOf]
theorem indexV_ok (hE : EnvOK P E) {t i : Nat} {k : IntKind} {x v : AV} {y : Value} (hx : RV ρ x y) (e : indexV E t i x = some v) :
    ∃ u, (Instr.index t y (.int k (.ofNat i))).run P w = .ok u w ∧ RV ρ v u := by
  obtain ⟨ti, ht, e0⟩ := oE_none_eq e
  obtain ⟨d, hd1, hd2, _, hd3⟩ := (hE.ty _ _ ht).und
  unfold indexD at e0
  split at e0
  · next l hd =>
    obtain ⟨b, hb, e1⟩ := oE_none_eq e0
    cases e1
    rw [nth_eq] at hb
    rw [hd] at hd2
    obtain rfl : d = .string := by cases d <;> simp [DR] at hd2 ⊢
    cases hx with
    | str s =>
      obtain ⟨hi, h1⟩ := bytes_get hb
      refine ⟨.int .u8 b, ?_, .int .u8 (.ofNat b)⟩
      have h0 : (0 : Int) ≤ Int.ofNat i := Int.natCast_nonneg i
      simp only [Instr.index, asIntOf, Sem.run_bind, Sem.run_pure, Result.andThen_ok, hd3]
      rw [if_pos h0]
      have : s[(Int.ofNat i).toNat]? = some s[i] := by simp [hi]
      rw [this]
      simp [h1]
  · next l ety c hd =>
    obtain ⟨hlt, e2⟩ := bE_none_eq e0
    obtain ⟨ei, hei, e3⟩ := oE_none_eq e2
    rw [hd] at hd2
    obtain ⟨m, f, rfl⟩ : ∃ m f, d = .array m f := by cases d <;> simp [DR] at hd2 ⊢
    simp only [DR] at hd2
    obtain ⟨rfl, rfl⟩ := hd2
    cases hx with
    | agg _ C hc =>
      have hT := hE.ty _ _ hei
      obtain ⟨u, h1, h2⟩ := part_ok (w := w) hT hc e3
      refine ⟨u, ?_, h2⟩
      have hb : (0 : Int) ≤ (Int.ofNat i) ∧ (Int.ofNat i) < (m : Int) := ⟨Int.natCast_nonneg i, by have := ble_true hlt; simp; omega⟩
      simp only [Instr.index, asIntOf, Sem.run_bind, Sem.run_pure, Result.andThen_ok, hd3]
      rw [if_pos hb]
      simp only [Sem.run_bind, hT.size, Result.andThen_ok]
      exact h1
  · cases e0
end
end Go.Ab
