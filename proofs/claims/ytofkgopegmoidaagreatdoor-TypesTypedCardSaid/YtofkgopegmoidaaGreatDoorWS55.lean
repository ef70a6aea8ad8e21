/- A part of an evaluator of the program's operations over values that are known whole or in part, and of the proof that what it answers holds of the program's run. No condition. -/
import Derived.Test.YtofkgopegmoidaaGreatDoorWS52
import Derived.Test.YtofkgopegmoidaaGreatDoorWS38
namespace T1
open Go Go.Ab Go.Proofs
open Go.RowKit (Below)
section
variable {wb w0 : World} {gb m r B : Nat} {ρ : Rho} {G : Hp} {w : World}
/-- the grower's block, as the evaluator holds it -/
theorem g_of {h : Tr AB} {x y : AV} (J : InvG wb w0 gb m r B ρ G w) (rh : RH B ρ G w) (hp : ∀ n o, h.get n = some o → G n = some o) (hg : gCells h = some (x, y)) : G 0 = some (.cells .ro [x, y]) ∧ RV ρ y (.slice none 0 0) := by
  obtain ⟨k, hk⟩ := gCells_eq hg
  have hG := hp _ _ hk
  have hown := J.ro _ hG
  have hkr : k = .ro := by cases k <;> first | rfl | cases hown
  subst hkr
  refine ⟨hG, ?_⟩
  obtain ⟨L, hL, hr⟩ := rh.blk 0 _ hG
  rw [J.g0] at hL; cases hL
  obtain ⟨u, hu, hr2⟩ := hr.1 1 y rfl
  obtain ⟨sl, _, h2, _⟩ := J.gs
  have : (gLoc gb).adr 1 = ⟨gb, 1, none⟩ := rfl
  rw [this, h2] at hu
  cases hu
  exact hr2
theorem isPtr0_eq {v : AV} (h : isPtr0 v = true) : v = .ptr 0 0 := by
  unfold isPtr0 at h
  cases hp : asPtr v with
  | none => rw [hp] at h; cases h
  | some p =>
    obtain ⟨n, o⟩ := p
    rw [hp, oE_some, pE_mk, Bool.and_eq_true] at h
    obtain rfl := asPtr_eq hp
    rw [beq_true h.1, beq_true h.2]
theorem ptr0_rv (J : InvG wb w0 gb m r B ρ G w) {u : Value} (h : RV ρ (.ptr 0 0) u) : u = .pointer (some ⟨gb, 0, none⟩) := by
  cases h with
  | ptr n o L hL => rw [J.g0] at hL; cases hL; rfl
/-- what the contracts of the calls that grow something come to -/
theorem wrapG {f : Nat} {xs : List Value} {h : Tr AB} {x y : AV} {c : Nat} (J : InvG wb w0 gb m r B ρ G w) (rh : RH B ρ G w) (hp : ∀ n o, h.get n = some o → G n = some o) (hg : gCells h = some (x, y)) (fr : ∀ n, c ≤ n → n < c + 7 → ρ n = none)
    (hc : Calls Tryz.prog f xs.toArray w (GrowRes wb gb w)) :
    Calls Tryz.prog f xs.toArray w fun e w' => ∃ u ρ', e = .returned u ∧ ρ.le ρ' ∧ (∀ n, (n < c ∨ c + 7 ≤ n) → ρ' n = ρ n) ∧ RV ρ' (exF c) u ∧ RH B ρ' (updG G (gUpd y)) w' ∧ Below B w w' ∧ invG wb w0 gb m r B ρ' (updG G (gUpd y)) w' := by
  obtain ⟨hG, hy⟩ := g_of J rh hp hg
  refine hc.mono fun e w' hres => ?_
  obtain ⟨cs, ex, he, hgood, hex, hbel, hsz, hw, hgs⟩ := hres
  have le := rhoX_le (cs := cs) fr
  have h1 := hex.one
  have hgbw : gb < w.heap.size := Nat.lt_of_lt_of_le J.lt J.sz
  have hin : ∀ (j : Nat) (u : Value), cs[j]? = some u → rhoX ρ c cs (c + j) = some ⟨0, 0, 0, u, 10 + j⟩ := fun j u hu => by
    have hj : j < cs.length := (List.getElem?_eq_some_iff.1 hu).1
    rw [rhoX_in (by omega), hu]; rfl
  have inn : ∀ n L, rhoX ρ c cs n = some L → L.blk < w'.heap.size := by
    intro n L hL
    by_cases hn : c ≤ n ∧ n < c + 7
    · unfold rhoX at hL
      rw [if_pos hn, Option.map_eq_some_iff] at hL
      obtain ⟨v, _, rfl⟩ := hL
      show 0 < w'.heap.size
      omega
    · rw [rhoX_out (by omega)] at hL
      have := rh.inn n L hL
      omega
  have rh' := rhG rh J.g0 hG J.far hy hsz hw hgs le inn
  -- names of blocks are old names
  have locG : ∀ n o L, (updG G (gUpd y)) n = some o → rhoX ρ c cs n = some L → ρ n = some L ∧ (n ≠ 0 → G n = some o) ∧ (o.own = true → G n = some o) := by
    intro n o L hn hL
    by_cases h0 : n = 0
    · subst h0
      have e0 : upF G 0 (some (.cells .ro [.any, y])) 0 = some o := hn
      rw [upF_same] at e0; cases e0
      have := le _ _ J.g0
      rw [hL] at this; cases this
      exact ⟨J.g0, fun h => absurd rfl h, fun h => by cases h⟩
    · have e0 : upF G 0 (some (.cells .ro [.any, y])) n = some o := hn
      rw [upF_other _ _ _ h0] at e0
      obtain ⟨M, hM, _⟩ := rh.blk n o e0
      have := le n M hM
      rw [hL] at this; cases this
      exact ⟨hM, fun _ => e0, fun _ => e0⟩
  refine ⟨.agg cs.toArray, rhoX ρ c cs, he, le, fun n hn => rhoX_out hn, .agg _ _ (opxL_rv 7 10 c cs h1.1 fun j u hu => ⟨_, hin j u hu, rfl, rfl, h1.2 u (List.mem_of_getElem? hu)⟩), rh', by rw [J.bb]; exact hbel, ?_⟩
  refine ⟨Nat.le_trans J.sz hsz, fun k hk hne => (hw k (Nat.lt_of_lt_of_le hk J.sz) hne).trans (J.old k hk hne), fun n o L hn ho hL => ?_, fun n o L h0 hn hL => ?_, le _ _ J.g0, fun o ho => ?_, hgs, J.bb, J.base, fun z hz => ?_, fun i L hL ht => ?_⟩
  · obtain ⟨k1, _, k3⟩ := locG n o L hn hL
    exact J.own n o L (k3 ho) ho k1
  · obtain ⟨k1, k2, _⟩ := locG n o L hn hL
    exact J.far n o L h0 (k2 h0) k1
  · have e0 : upF G 0 (some (.cells .ro [.any, y])) 0 = some o := ho
    rw [upF_same] at e0; cases e0; rfl
  · have e0 : upF G 0 (some (.cells .ro [.any, y])) 0 = some (.cells .ro [.op 90, z]) := hz
    rw [upF_same] at e0; cases e0
  · have tg' : ∀ k, Tg w0 ρ G w k → Tg w0 (rhoX ρ c cs) (updG G (gUpd y)) w' k := fun k hk => ⟨hk.1, Nat.lt_of_lt_of_le hk.2.1 hsz, fun n o L hn ho hL => by
      obtain ⟨k1, _, k3⟩ := locG n o L hn hL
      exact hk.2.2 n o L (k3 ho) ho k1⟩
    by_cases hi : c ≤ i ∧ i < c + 7
    · -- the new expression
      have hL' := hL
      unfold rhoX at hL'
      rw [if_pos hi, Option.map_eq_some_iff] at hL'
      obtain ⟨v, hv, rfl⟩ := hL'
      have hic : i = c := by
        have : 10 + (i - c) = 10 := ht
        omega
      subst hic
      refine ⟨cs, ex, hgood, hex.mono (fun k hk => ⟨Nat.le_trans J.sz hk.1, hk.2, fun n o L hn ho hL => ?_⟩) (fun _ _ => rfl), fun j hj => ?_⟩
      · have hjc : cs[j]? = some cs[j] := List.getElem?_eq_getElem (by omega)
        exact ⟨_, hin j _ hjc, rfl, hjc⟩
      · obtain ⟨k1, _, k3⟩ := locG n o L hn hL
        have h5 := rh.inn n L k1
        have h6 := hk.1
        intro he2
        omega
    · rw [rhoX_out (by omega)] at hL
      obtain ⟨cs', ex', k1, k2, k3⟩ := J.tr i L hL ht
      refine ⟨cs', ex', k1, k2.mono tg' (fun k hk => hw k hk.2.1 ?_), fun j hj => ?_⟩
      · intro he2
        have := hk.1
        have := J.lt
        omega
      · obtain ⟨M, l1, l2, l3⟩ := k3 j hj
        exact ⟨M, le _ _ l1, l2, l3⟩
end
end T1
namespace T1
open Go Go.Ab Go.Proofs
open Go.RowKit (Below)
section
variable {wb w0 : World} {gb m r B : Nat} {ρ : Rho} {G : Hp} {w : World}
/-- the grower's block has turned, and no more -/
theorem touchG {x y : AV} {w' : World} (J : InvG wb w0 gb m r B ρ G w) (rh : RH B ρ G w) (hG : G 0 = some (.cells .ro [x, y])) (hy : RV ρ y (.slice none 0 0)) (hs : w'.heap.size = w.heap.size) (hw : ∀ k, k ≠ gb → w'.heap[k]? = w.heap[k]?) (hgs : GS wb gb w') :
    RH B ρ (updG G (gUpd y)) w' ∧ InvG wb w0 gb m r B ρ (updG G (gUpd y)) w' := by
  have locG : ∀ n o, (updG G (gUpd y)) n = some o → (n ≠ 0 → G n = some o) ∧ (o.own = true → G n = some o) := by
    intro n o hn
    by_cases h0 : n = 0
    · subst h0
      have e0 : upF G 0 (some (.cells .ro [.any, y])) 0 = some o := hn
      rw [upF_same] at e0; cases e0
      exact ⟨fun h => absurd rfl h, fun h => by cases h⟩
    · have e0 : upF G 0 (some (.cells .ro [.any, y])) n = some o := hn
      rw [upF_other _ _ _ h0] at e0
      exact ⟨fun _ => e0, fun _ => e0⟩
  refine ⟨rhG rh J.g0 hG J.far hy (Nat.le_of_eq hs.symm) (fun k _ hne => hw k hne) hgs (Rho.le_refl _) (fun n L hL => by rw [hs]; exact rh.inn n L hL), ?_⟩
  refine ⟨by rw [hs]; exact J.sz, fun k hk hne => (hw k hne).trans (J.old k hk hne), fun n o L hn ho hL => J.own n o L ((locG n o hn).2 ho) ho hL, fun n o L h0 hn hL => J.far n o L h0 ((locG n o hn).1 h0) hL, J.g0, fun o ho => ?_, hgs, J.bb, J.base, fun z hz => ?_, fun i L hL ht => ?_⟩
  · have e0 : upF G 0 (some (.cells .ro [.any, y])) 0 = some o := ho
    rw [upF_same] at e0; cases e0; rfl
  · have e0 : upF G 0 (some (.cells .ro [.any, y])) 0 = some (.cells .ro [.op 90, z]) := hz
    rw [upF_same] at e0; cases e0
  · obtain ⟨cs, ex, k1, k2, k3⟩ := J.tr i L hL ht
    refine ⟨cs, ex, k1, k2.mono (fun k hk => ⟨hk.1, by rw [hs]; exact hk.2.1, fun n o L hn ho hL => hk.2.2 n o L ((locG n o hn).2 ho) ho hL⟩) (fun k hk => hw k ?_), k3⟩
    intro he
    have := hk.1
    have := J.lt
    omega
/-- an expression of a call that only grows the world -/
theorem wrapN {f : Nat} {xs : List Value} {c : Nat} (J : InvG wb w0 gb m r B ρ G w) (rh : RH B ρ G w) (hB : B ≤ w.heap.size) (fr : ∀ n, c ≤ n → n < c + 7 → ρ n = none)
    (hc : Calls Tryz.prog f xs.toArray w fun e w' => ∃ (cs : List Value) (ex : Ex), e = .returned (.agg cs.toArray) ∧ Good ex ∧ IsEx w' (fun k => w.heap.size ≤ k ∧ k < w'.heap.size) ex cs ∧ Below w.heap.size w w') :
    Calls Tryz.prog f xs.toArray w fun e w' => ∃ u ρ', e = .returned u ∧ ρ.le ρ' ∧ (∀ n, (n < c ∨ c + 7 ≤ n) → ρ' n = ρ n) ∧ RV ρ' (exF c) u ∧ RH B ρ' (updG G none) w' ∧ Below B w w' ∧ invG wb w0 gb m r B ρ' (updG G none) w' := by
  refine hc.mono fun e w' ⟨cs, ex, he, hgood, hex, hbel⟩ => ?_
  have le := rhoX_le (cs := cs) fr
  have h1 := hex.one
  have hsz := hbel.size
  have hgbw : gb < w.heap.size := Nat.lt_of_lt_of_le J.lt J.sz
  have hin : ∀ (j : Nat) (u : Value), cs[j]? = some u → rhoX ρ c cs (c + j) = some ⟨0, 0, 0, u, 10 + j⟩ := fun j u hu => by
    have hj : j < cs.length := (List.getElem?_eq_some_iff.1 hu).1
    rw [rhoX_in (by omega), hu]; rfl
  have loc : ∀ n o L, G n = some o → rhoX ρ c cs n = some L → ρ n = some L := by
    intro n o L hn hL
    obtain ⟨M, hM, _⟩ := rh.blk n o hn
    have := le n M hM
    rw [hL] at this; cases this
    exact hM
  have rh' : RH B (rhoX ρ c cs) G w' := by
    refine ⟨fun n o hg => ?_, fun n k a b L M hn hk hL hM => rh.dis n k a b L M hn hk (loc n a L hn hL) (loc k b M hk hM), fun n L hL => ?_⟩
    · obtain ⟨L, hL, hr⟩ := rh.blk n o hg
      exact ⟨L, le _ _ hL, (hr.mono le).same (hbel.block _ (rh.inn n L hL))⟩
    · by_cases hn : c ≤ n ∧ n < c + 7
      · unfold rhoX at hL
        rw [if_pos hn, Option.map_eq_some_iff] at hL
        obtain ⟨v, _, rfl⟩ := hL
        show 0 < w'.heap.size
        omega
      · rw [rhoX_out (by omega)] at hL
        have := rh.inn n L hL
        omega
  refine ⟨.agg cs.toArray, rhoX ρ c cs, he, le, fun n hn => rhoX_out hn, .agg _ _ (opxL_rv 7 10 c cs h1.1 fun j u hu => ⟨_, hin j u hu, rfl, rfl, h1.2 u (List.mem_of_getElem? hu)⟩), rh', hbel.mono hB, ?_⟩
  refine ⟨Nat.le_trans J.sz hsz, fun k hk hne => (hbel.block k (Nat.lt_of_lt_of_le hk J.sz)).trans (J.old k hk hne), fun n o L hn ho hL => J.own n o L hn ho (loc n o L hn hL), fun n o L h0 hn hL => J.far n o L h0 hn (loc n o L hn hL), le _ _ J.g0, J.ro, J.gs.same (hbel.block gb hgbw), J.bb, J.base, fun y hy x hx => J.nx y hy x (hx.same (hbel.block gb hgbw).symm), fun i L hL ht => ?_⟩
  by_cases hi : c ≤ i ∧ i < c + 7
  · unfold rhoX at hL
    rw [if_pos hi, Option.map_eq_some_iff] at hL
    obtain ⟨v, hv, rfl⟩ := hL
    have hic : i = c := by
      have : 10 + (i - c) = 10 := ht
      omega
    subst hic
    refine ⟨cs, ex, hgood, hex.mono (fun k hk => ⟨Nat.le_trans J.sz hk.1, hk.2, fun n o L hn ho hL => ?_⟩) (fun _ _ => rfl), fun j hj => ?_⟩
    · have hjc : cs[j]? = some cs[j] := List.getElem?_eq_getElem (by omega)
      exact ⟨_, hin j _ hjc, rfl, hjc⟩
    · have h5 := rh.inn n L (loc n o L hn hL)
      have h6 := hk.1
      intro he2
      omega
  · rw [rhoX_out (by omega)] at hL
    obtain ⟨cs', ex', k1, k2, k3⟩ := J.tr i L hL ht
    refine ⟨cs', ex', k1, k2.mono (fun k hk => ⟨hk.1, Nat.lt_of_lt_of_le hk.2.1 hsz, fun n o L hn ho hL => hk.2.2 n o L hn ho (loc n o L hn hL)⟩) (fun k hk => hbel.block k hk.2.1), fun j hj => ?_⟩
    obtain ⟨M, l1, l2, l3⟩ := k3 j hj
    exact ⟨M, le _ _ l1, l2, l3⟩
end
/-! What is to be shown of the functions that grow. -/
def GrowSpec (t d : Nat) : Prop := ∀ (wb w : World) (gb : Nat), Base wb w gb → GS wb gb w → Calls Tryz.prog 45 #[.pointer (some ⟨gb, 0, none⟩), .int .i64 (t : Int), .int .i64 (d : Int)] w (GrowRes wb gb w)
def SubSpec (f d : Nat) : Prop := ∀ k : Nat, k ≤ 255 → (d ≤ 3 ∨ k = 0) → ∀ (wb w : World) (gb : Nat), Base wb w gb → GS wb gb w → Calls Tryz.prog f #[.pointer (some ⟨gb, 0, none⟩), .int .i64 (k : Int), .int .i64 (d : Int)] w (GrowRes wb gb w)
def NumSpec : Prop := ∀ n : Int, -3 ≤ n → n ≤ 60 → ∀ w : World, 0 < w.heap.size → Calls Tryz.prog 83 #[.int .i64 n] w fun e w' => ∃ (cs : List Value) (ex : Ex), e = .returned (.agg cs.toArray) ∧ Good ex ∧ IsEx w' (fun k => w.heap.size ≤ k ∧ k < w'.heap.size) ex cs ∧ Below w.heap.size w w'
theorem inNat_eq {v : AV} {n : Nat} (h : inNat v = some n) : v = .int .i64 (n : Int) := by
  obtain ⟨⟨k, z⟩, hv, e1⟩ := oE_none_eq (show oE (asInt v) none (fun p => pE p (fun k z => bE (keq k .i64) (iE z some (fun _ => none)) none)) = some n from h)
  rw [pE_mk] at e1
  obtain ⟨hk, e2⟩ := bE_none_eq e1
  obtain rfl := keq_eq hk
  obtain rfl := asInt_eq hv
  cases z with
  | ofNat q => cases (show some q = some n from e2); rfl
  | negSucc q => cases e2
theorem isK_rv {ρ : Rho} {v : AV} {u : Value} (h : isK v = true) (hr : RV ρ v u) : ∃ k : Nat, k ≤ 255 ∧ u = .int .i64 (k : Int) := by
  unfold isK at h
  split at h
  · cases hr with
    | cong m r n h1 h2 => exact ⟨n, h1, rfl⟩
  · cases hr
    next n => exact ⟨n, ble_true h, rfl⟩
  · cases hr with
    | rng k lo hi n hl hh =>
      rw [ilt_eq, ilt_eq, Bool.and_eq_true, decide_eq_true_eq, decide_eq_true_eq] at h
      have h1 := hl _ rfl
      have h2 := hh _ rfl
      have e1 : (Int.negSucc Nat.zero) = -1 := rfl
      have e2 : (Int.ofNat 256) = 256 := rfl
      obtain ⟨h3, h4⟩ := h
      rw [e1] at h3
      have h5 := Int.lt_of_le_of_lt h2 h4
      have h6 : n < 256 := h5
      refine ⟨n.toNat, by omega, ?_⟩
      congr 1
      omega
  · cases h
theorem numIn_rv {ρ : Rho} {v : AV} {u : Value} (h : numIn v = true) (hr : RV ρ v u) : ∃ n : Int, -3 ≤ n ∧ n ≤ 60 ∧ u = .int .i64 n := by
  have e1 : (Int.negSucc 3) = -4 := rfl
  have e2 : (Int.ofNat 61) = 61 := rfl
  unfold numIn at h
  split at h
  · cases hr
    rw [ilt_eq, ilt_eq, Bool.and_eq_true, decide_eq_true_eq, decide_eq_true_eq] at h
    exact ⟨_, by omega, by omega, rfl⟩
  · cases hr with
    | rng k lo hi n hl hh =>
      rw [ilt_eq, ilt_eq, Bool.and_eq_true, decide_eq_true_eq, decide_eq_true_eq] at h
      have h1 := hl _ rfl
      have h2 := hh _ rfl
      exact ⟨n, by omega, by omega, rfl⟩
  · cases h
end T1
namespace T1
open Go Go.Ab Go.Proofs
open Go.RowKit (Below)
theorem fn82 : T1.E.fn.get 82 = some Tryz.f82 := by kernel_rfl
theorem fn45 : T1.E.fn.get 45 = some Tryz.f45 := by kernel_rfl
theorem fn83 : T1.E.fn.get 83 = some Tryz.f83 := by kernel_rfl
theorem fn85 : T1.E.fn.get 85 = some Tryz.f85 := by kernel_rfl
theorem fn86 : T1.E.fn.get 86 = some Tryz.f86 := by kernel_rfl
theorem fn87 : T1.E.fn.get 87 = some Tryz.f87 := by kernel_rfl
theorem body82 : Tryz.f82.body = some (bodyOf Tryz.f82) := by kernel_rfl
theorem body45 : Tryz.f45.body = some (bodyOf Tryz.f45) := by kernel_rfl
theorem body83 : Tryz.f83.body = some (bodyOf Tryz.f83) := by kernel_rfl
theorem body85 : Tryz.f85.body = some (bodyOf Tryz.f85) := by kernel_rfl
theorem body86 : Tryz.f86.body = some (bodyOf Tryz.f86) := by kernel_rfl
theorem body87 : Tryz.f87.body = some (bodyOf Tryz.f87) := by kernel_rfl
theorem isZ_rv {ρ : Rho} {v : AV} {k : Nat} (h : isZ v = true) (hr : RV ρ v (.int .i64 (k : Int))) : k = 0 := by
  obtain ⟨n, hn, e6⟩ : ∃ n, inNat v = some n ∧ Nat.beq n .zero = true := by
    unfold isZ at h
    cases ho : inNat v with
    | none => rw [ho] at h; cases h
    | some i => rw [ho] at h; exact ⟨i, rfl, h⟩
  obtain rfl := beq_true e6
  obtain rfl := inNat_eq hn
  generalize hv : Value.int .i64 (k : Int) = vv at hr
  cases hr
  simp at hv
  exact hv
theorem conG_get {m r mu : Nat} {sub : Bool} {f : Nat} {k : Tr AB → Nat → List AV → ConR} (h : (conG m r mu sub).get f = some k) :
    (f = 82 ∧ k = takeK m r) ∨ (f = 45 ∧ k = growK mu) ∨ (f = 83 ∧ k = numK) ∨ (sub = true ∧ ((f = 85 ∧ k = subK 4 mu) ∨ (f = 86 ∧ k = subK 5 mu) ∨ (f = 87 ∧ k = subK 6 mu))) := by
  have base : (((Tr.lf.set 82 (takeK m r)).set 45 (growK mu)).set 83 numK).get f = some k → (f = 82 ∧ k = takeK m r) ∨ (f = 45 ∧ k = growK mu) ∨ (f = 83 ∧ k = numK) := by
    intro h
    rw [Tr.get_set, Tr.get_set, Tr.get_set] at h
    by_cases h1 : f = 83
    · rw [if_pos h1] at h; cases h; exact .inr (.inr ⟨h1, rfl⟩)
    rw [if_neg h1] at h
    by_cases h2 : f = 45
    · rw [if_pos h2] at h; cases h; exact .inr (.inl ⟨h2, rfl⟩)
    rw [if_neg h2] at h
    by_cases h3 : f = 82
    · rw [if_pos h3] at h; cases h; exact .inl ⟨h3, rfl⟩
    rw [if_neg h3] at h; simp at h
  cases sub with
  | false =>
    rcases base h with h | h | h
    · exact .inl h
    · exact .inr (.inl h)
    · exact .inr (.inr (.inl h))
  | true =>
    have h' : (((((((Tr.lf : Tr (Tr AB → Nat → List AV → ConR)).set 82 (takeK m r)).set 45 (growK mu)).set 83 numK).set 85 (subK 4 mu)).set 86 (subK 5 mu)).set 87 (subK 6 mu)).get f = some k := h
    rw [Tr.get_set] at h'
    by_cases h1 : f = 87
    · rw [if_pos h1] at h'; cases h'; exact .inr (.inr (.inr ⟨rfl, .inr (.inr ⟨h1, rfl⟩)⟩))
    rw [if_neg h1, Tr.get_set] at h'
    by_cases h1 : f = 86
    · rw [if_pos h1] at h'; cases h'; exact .inr (.inr (.inr ⟨rfl, .inr (.inl ⟨h1, rfl⟩)⟩))
    rw [if_neg h1, Tr.get_set] at h'
    by_cases h1 : f = 85
    · rw [if_pos h1] at h'; cases h'; exact .inr (.inr (.inr ⟨rfl, .inl ⟨h1, rfl⟩⟩))
    rw [if_neg h1] at h'
    rcases base h' with h | h | h
    · exact .inl h
    · exact .inr (.inl h)
    · exact .inr (.inr (.inl h))
section
variable {wb w0 : World} {gb m r B : Nat} {ρ : Rho} {G : Hp} {w : World}
theorem take_con {h : Tr AB} {c : Nat} {args : List AV} {v : AV} {m' : Nat} {o : Option (Nat × AB)} {xs : List Value} (e : takeK m r h c args = some (v, m', o)) (hz : RVs ρ args xs) (J : InvG wb w0 gb m r B ρ G w) (rh : RH B ρ G w) (hp : ∀ n o, h.get n = some o → G n = some o) :
    Calls Tryz.prog 82 xs.toArray w fun e w' => ∃ u ρ', e = .returned u ∧ ρ.le ρ' ∧ (∀ n, (n < c ∨ c + m' ≤ n) → ρ' n = ρ n) ∧ RV ρ' v u ∧ RH B ρ' (updG G o) w' ∧ Below B w w' ∧ invG wb w0 gb m r B ρ' (updG G o) w' := by
  cases hz with
  | nil => cases e
  | cons hz1 hz2 => cases hz2 with
    | cons => cases e
    | nil =>
      obtain ⟨ha, e1⟩ := bE_none_eq e
      obtain ⟨⟨x, y⟩, hg, e2⟩ := oE_none_eq e1
      rw [pE_mk] at e2
      obtain rfl := isPtr0_eq ha
      obtain rfl := ptr0_rv J hz1
      obtain ⟨hG, hy⟩ := g_of J rh hp hg
      cases e2
      refine (take_gs (w0 := wb) J.baseW.2.2 J.gs).mono fun e w' ⟨n, hn, hnx, he, hgs, hs, hw, hbel⟩ => ?_
      obtain ⟨rh', J'⟩ := touchG J rh hG hy hs hw hgs
      refine ⟨_, ρ, he, Rho.le_refl _, fun _ _ => rfl, ?_, rh', by rw [J.bb]; exact hbel, J'⟩
      cases h90 : isOp90 x with
      | true =>
        have hx : x = .op 90 := by
          obtain ⟨i, hi, e3⟩ : ∃ i, asOp x = some i ∧ Nat.beq i (nat_lit 90) = true := by
            unfold isOp90 at h90
            cases ho : asOp x with
            | none => rw [ho] at h90; cases h90
            | some i => rw [ho] at h90; exact ⟨i, rfl, h90⟩
          obtain rfl := beq_true e3
          exact asOp_eq hi
        subst hx
        exact .cong m r n hn (J.nx y hG n hnx)
      | false =>
        refine .rng _ _ _ _ (fun l hl => ?_) (fun l hl => ?_)
        · cases hl; show (0 : Int) ≤ n; omega
        · cases hl; show (n : Int) ≤ 255; omega
theorem grow_con {mu : Nat} {h : Tr AB} {c : Nat} {args : List AV} {v : AV} {m' : Nat} {o : Option (Nat × AB)} {xs : List Value} (grow : ∀ t d, okTD t d = true → meas t d < mu → GrowSpec t d) (e : growK mu h c args = some (v, m', o)) (hz : RVs ρ args xs) (J : InvG wb w0 gb m r B ρ G w) (rh : RH B ρ G w) (hp : ∀ n o, h.get n = some o → G n = some o) (fr : ∀ n, c ≤ n → n < c + m' → ρ n = none) :
    Calls Tryz.prog 45 xs.toArray w fun e w' => ∃ u ρ', e = .returned u ∧ ρ.le ρ' ∧ (∀ n, (n < c ∨ c + m' ≤ n) → ρ' n = ρ n) ∧ RV ρ' v u ∧ RH B ρ' (updG G o) w' ∧ Below B w w' ∧ invG wb w0 gb m r B ρ' (updG G o) w' := by
  cases hz with
  | nil => cases e
  | cons hz1 hz2 => cases hz2 with
    | nil => cases e
    | cons hz2 hz3 => cases hz3 with
      | nil => cases e
      | cons hz3 hz4 => cases hz4 with
        | cons => cases e
        | nil =>
          obtain ⟨ha, e1⟩ := bE_none_eq e
          obtain ⟨⟨x, y⟩, hg, e2⟩ := oE_none_eq e1
          rw [pE_mk] at e2
          obtain ⟨t, ht, e3⟩ := oE_none_eq e2
          obtain ⟨d, hd, e4⟩ := oE_none_eq e3
          obtain ⟨hok, e5⟩ := bE_none_eq e4
          rw [Bool.and_eq_true] at hok
          obtain rfl := isPtr0_eq ha
          obtain rfl := ptr0_rv J hz1
          obtain rfl := inNat_eq ht
          obtain rfl := inNat_eq hd
          cases e5
          cases hz2; cases hz3
          exact wrapG J rh hp hg fr (grow t d hok.1 (ble_true hok.2) wb w gb J.baseW J.gs)
theorem sub_con {t f mu : Nat} {h : Tr AB} {c : Nat} {args : List AV} {v : AV} {m' : Nat} {o : Option (Nat × AB)} {xs : List Value} (sub : ∀ d, okTD t d = true → meas t d ≤ mu → SubSpec f d) (e : subK t mu h c args = some (v, m', o)) (hz : RVs ρ args xs) (J : InvG wb w0 gb m r B ρ G w) (rh : RH B ρ G w) (hp : ∀ n o, h.get n = some o → G n = some o) (fr : ∀ n, c ≤ n → n < c + m' → ρ n = none) :
    Calls Tryz.prog f xs.toArray w fun e w' => ∃ u ρ', e = .returned u ∧ ρ.le ρ' ∧ (∀ n, (n < c ∨ c + m' ≤ n) → ρ' n = ρ n) ∧ RV ρ' v u ∧ RH B ρ' (updG G o) w' ∧ Below B w w' ∧ invG wb w0 gb m r B ρ' (updG G o) w' := by
  cases hz with
  | nil => cases e
  | cons hz1 hz2 => cases hz2 with
    | nil => cases e
    | cons hz2 hz3 => cases hz3 with
      | nil => cases e
      | cons hz3 hz4 => cases hz4 with
        | cons => cases e
        | nil =>
          obtain ⟨ha, e1⟩ := bE_none_eq e
          obtain ⟨⟨x, y⟩, hg, e2⟩ := oE_none_eq e1
          rw [pE_mk] at e2
          obtain ⟨d, hd, e4⟩ := oE_none_eq e2
          obtain ⟨hok, e5⟩ := bE_none_eq e4
          rw [Bool.and_eq_true, Bool.and_eq_true] at hok
          rw [Bool.and_eq_true] at ha
          obtain rfl := isPtr0_eq ha.1
          obtain rfl := ptr0_rv J hz1
          obtain rfl := inNat_eq hd
          obtain ⟨k, hk, rfl⟩ := isK_rv ha.2 hz2
          cases e5
          cases hz3
          refine wrapG J rh hp hg fr (sub d hok.1.1 (ble_true hok.1.2) k hk ?_ wb w gb J.baseW J.gs)
          rcases Bool.or_eq_true _ _ ▸ hok.2 with h1 | h1
          · exact .inl (ble_true h1)
          · exact .inr (isZ_rv h1 hz2)
theorem num_con {h : Tr AB} {c : Nat} {args : List AV} {v : AV} {m' : Nat} {o : Option (Nat × AB)} {xs : List Value} (num : NumSpec) (e : numK h c args = some (v, m', o)) (hz : RVs ρ args xs) (J : InvG wb w0 gb m r B ρ G w) (rh : RH B ρ G w) (hB : B ≤ w.heap.size) (fr : ∀ n, c ≤ n → n < c + m' → ρ n = none) :
    Calls Tryz.prog 83 xs.toArray w fun e w' => ∃ u ρ', e = .returned u ∧ ρ.le ρ' ∧ (∀ n, (n < c ∨ c + m' ≤ n) → ρ' n = ρ n) ∧ RV ρ' v u ∧ RH B ρ' (updG G o) w' ∧ Below B w w' ∧ invG wb w0 gb m r B ρ' (updG G o) w' := by
  cases hz with
  | nil => cases e
  | cons hz1 hz2 => cases hz2 with
    | cons => cases e
    | nil =>
      obtain ⟨ha, e1⟩ := bE_none_eq e
      cases e1
      obtain ⟨n, h1, h2, rfl⟩ := numIn_rv ha hz1
      exact wrapN J rh hB fr (num n h1 h2 w (by have := J.lt; have := J.sz; omega))
end
theorem conG_ok {m r mu : Nat} {sub : Bool} (num : NumSpec) (grow : ∀ t d, okTD t d = true → meas t d < mu → GrowSpec t d)
    (h4 : sub = true → ∀ d, okTD 4 d = true → meas 4 d ≤ mu → SubSpec 85 d) (h5 : sub = true → ∀ d, okTD 5 d = true → meas 5 d ≤ mu → SubSpec 86 d) (h6 : sub = true → ∀ d, okTD 6 d = true → meas 6 d ≤ mu → SubSpec 87 d)
    (wb w0 : World) (gb : Nat) : ConOK Tryz.prog (conG m r mu sub) (invG wb w0 gb m r) := by
  intro f k hk h c args v m' o hkm B ρ G w xs hz inv rh hB hp fr
  rcases conG_get hk with ⟨rfl, rfl⟩ | ⟨rfl, rfl⟩ | ⟨rfl, rfl⟩ | ⟨hs, ⟨rfl, rfl⟩ | ⟨rfl, rfl⟩ | ⟨rfl, rfl⟩⟩
  · exact ⟨has fn82 body82, take_con hkm hz inv rh hp⟩
  · exact ⟨has fn45 body45, grow_con grow hkm hz inv rh hp fr⟩
  · exact ⟨has fn83 body83, num_con num hkm hz inv rh hB fr⟩
  · exact ⟨has fn85 body85, sub_con (h4 hs) hkm hz inv rh hp fr⟩
  · exact ⟨has fn86 body86, sub_con (h5 hs) hkm hz inv rh hp fr⟩
  · exact ⟨has fn87 body87, sub_con (h6 hs) hkm hz inv rh hp fr⟩
end T1
