/- A part of an evaluator of the program's operations over values that are known whole or in part, and of the proof that what it answers holds of the program's run. No condition. -/
import Derived.Test.YtofkgopegmoidaaGreatDoorWU3
namespace T1
open Go Go.Ab Go.Proofs
open Go.RowKit (Below)
/-- What a coder's function comes to. -/
def YRes (q : Ex → Prop) (wb : World) (gb : Nat) (y : Value) (w : World) (e : Ending) (w' : World) : Prop := ∃ (cs : List Value) (ex : Ex), e = .returned (.agg cs.toArray) ∧ q ex ∧ IsEx w' (fun k => w.heap.size ≤ k ∧ k < w'.heap.size) ex cs ∧ Below gb w w' ∧ w.heap.size ≤ w'.heap.size ∧
  (∀ k, k < w.heap.size → k ≠ gb → w'.heap[k]? = w.heap[k]?) ∧ ∃ ns, CS wb gb y ns w'
def KC (wb : World) (gb : Nat) (y : Value) (m1 r1 m2 r2 : Nat) : KP := fun _ G w => ∃ ns, CS wb gb y ns w ∧ (∀ i z, G 0 = some (.cells .ro [.opx 2 i, z]) → ns.headD 0 % m1 = r1 ∧ ns.tail.headD 0 % m2 = r2) ∧ (∀ i z, G 0 = some (.cells .ro [.opx 3 i, z]) → ns.headD 0 % m2 = r2)
theorem KC_ok (wb : World) (gb : Nat) (y : Value) (m1 r1 m2 r2 : Nat) : KOK (KC wb gb y m1 r1 m2 r2) gb := by
  intro ρ G w ρ' G' w' ⟨ns, h1, h2, h3⟩ hg _ _ h0
  exact ⟨ns, h1.same hg, fun i z h => h2 i z (h0 ▸ h), fun i z h => h3 i z (h0 ▸ h)⟩
section
variable {vs : Nat} {wb w0 : World} {gb m1 r1 m2 r2 B : Nat} {yv : Value} {ρ : Rho} {G : Hp} {w : World}
abbrev IY (vs : Nat) (wb w0 : World) (gb : Nat) (yv : Value) (m1 r1 m2 r2 : Nat) (B : Nat) (ρ : Rho) (G : Hp) (w : World) : Prop := InvU (QT vs) (KC wb gb yv m1 r1 m2 r2) w0 gb B ρ G w
theorem baseY (hb : Base wb w0 gb) (J : IY vs wb w0 gb yv m1 r1 m2 r2 B ρ G w) : Base wb w gb :=
  ⟨hb.1, Nat.le_trans hb.2.1 J.sz, fun k hk hne => (J.old k (Nat.lt_of_lt_of_le hk hb.2.1) hne).trans (hb.2.2 k hk hne)⟩
theorem y_of {h : Tr AB} {x y : AV} (J : IY vs wb w0 gb yv m1 r1 m2 r2 B ρ G w) (rh : RH B ρ G w) (hp : ∀ n o, h.get n = some o → G n = some o) (hg : gCells h = some (x, y)) : G 0 = some (.cells .ro [x, y]) ∧ RV ρ y yv := by
  obtain ⟨k, hk⟩ := gCells_eq hg
  have hG := hp _ _ hk
  have hown := J.ro _ hG
  have hkr : k = .ro := by cases k <;> first | rfl | cases hown
  subst hkr
  refine ⟨hG, ?_⟩
  obtain ⟨L, hL, hr⟩ := rh.blk 0 _ hG
  rw [J.g0] at hL; cases hL
  obtain ⟨u, hu, hr2⟩ := hr.1 1 y rfl
  obtain ⟨ns, ⟨sl, _, h2, _⟩, _⟩ := J.ks
  have : (bLoc gb).adr 1 = ⟨gb, 1, none⟩ := rfl
  rw [this, h2] at hu
  cases hu
  exact hr2
theorem ptrY_rv (J : IY vs wb w0 gb yv m1 r1 m2 r2 B ρ G w) {u : Value} (h : RV ρ (.ptr 0 0) u) : u = .pointer (some ⟨gb, 0, none⟩) := by
  cases h with
  | ptr n o L hL => rw [J.g0] at hL; cases hL; rfl
theorem rbY {ρ' : Rho} {w' : World} {x y : AV} {ns : List Nat} (hy : RV ρ' y yv) (hx : ∀ u, w'.cell? ⟨gb, 0, none⟩ = some u → RV ρ' x u) (hcs : CS wb gb yv ns w') : RB gb ρ' w' (bLoc gb) (.cells .ro [x, y]) := by
  obtain ⟨sl, h1, h2, _, _⟩ := hcs
  refine ⟨fun i v hv => ?_, trivial⟩
  match i, hv with
  | 0, hv => cases hv; exact ⟨sl, h1, hx sl h1⟩
  | 1, hv => cases hv; exact ⟨yv, h2, hy⟩
  | i + 2, hv => simp at hv
/-- a call that gives a tree -/
theorem treeY {f : Nat} {xs : List Value} {h : Tr AB} {x y : AV} {c t d : Nat} (ht : t < 16) (J : IY vs wb w0 gb yv m1 r1 m2 r2 B ρ G w) (rh : RH B ρ G w) (hp : ∀ n o, h.get n = some o → G n = some o) (hg : gCells h = some (x, y)) (fr : ∀ n, c ≤ n → n < c + 7 → ρ n = none)
    (hc : Calls Tryz.prog f xs.toArray w (YRes (TEP vs t d) wb gb yv w)) :
    Calls Tryz.prog f xs.toArray w fun e w' => ∃ u ρ', e = .returned u ∧ ρ.le ρ' ∧ (∀ n, (n < c ∨ c + 7 ≤ n) → ρ' n = ρ n) ∧ RV ρ' (exC t d c) u ∧ RH B ρ' (updG G (gUpd y)) w' ∧ Below B w w' ∧ invU (QT vs) (KC wb gb yv m1 r1 m2 r2) w0 gb B ρ' (updG G (gUpd y)) w' := by
  obtain ⟨hG, hy⟩ := y_of J rh hp hg
  refine wrapU J rh fr (hc.mono fun e w' hres => ?_)
  obtain ⟨cs, ex, he, hq, hex, hbel, hsz, hw, ns, hcs⟩ := hres
  have h1 := hex.one
  have hin : ∀ (j : Nat) (u : Value), cs[j]? = some u → rhoN ρ c cs (fun j => tcl (cc t d) + j) (c + j) = some ⟨0, 0, 0, u, tcl (cc t d) + j⟩ := fun j u hu => by
    obtain ⟨hj, hu'⟩ := List.getElem?_eq_some_iff.1 hu
    rw [rhoN_in hj, hu']
  have le : ρ.le (rhoN ρ c cs (fun j => tcl (cc t d) + j)) := rhoN_le (by rw [h1.1]; exact fr)
  refine ⟨.agg cs.toArray, cs, fun j => tcl (cc t d) + j, ⟨he, h1.1, h1.2, .agg _ _ (opxL_rv 7 _ c cs h1.1 fun j u hu => ⟨_, hin j u hu, rfl, rfl, h1.2 u (List.mem_of_getElem? hu)⟩), hsz, hw, hbel, ⟨rfl, rfl, rbY (hy.mono le) (fun u _ => .any u) hcs⟩, ?_, fun i hi cc' hcc => ?_⟩⟩
  · refine ⟨ns, hcs, fun i z hz => ?_, fun i z hz => ?_⟩
    · have e0 : upF G 0 (some (.cells .ro [.any, y])) 0 = some (.cells .ro [.opx 2 i, z]) := hz
      rw [upF_same] at e0; cases e0
    · have e0 : upF G 0 (some (.cells .ro [.any, y])) 0 = some (.cells .ro [.opx 3 i, z]) := hz
      rw [upF_same] at e0; cases e0
  · have hcc' : tcl (cc t d) + i = tcl cc' := hcc
    have hi0 : i = 0 := by unfold tcl at hcc'; omega
    subst hi0
    obtain rfl : cc t d = cc' := tcl_inj (by simpa using hcc')
    refine ⟨cs, ex, ?_, hex, fun j hj => ⟨by omega, by simp, by simp⟩⟩
    have e1 : cc t d % 16 = t := by show (t + 16 * d) % 16 = t; omega
    have e2 : cc t d / 16 = d := by show (t + 16 * d) / 16 = d; omega
    unfold QT
    rw [e1, e2]; exact hq
theorem known_rv {m r n x : Nat} (hn : 1 ≤ n) (hx : x % m = r) {ρ : Rho} : RV ρ (knownR m r n) (.int .i64 ((x : Int) % (n : Int))) := by
  have e0 : ((x : Int) % (n : Int)) = ((x % n : Nat) : Int) := by simp
  rw [e0]
  unfold knownR
  cases hb : Nat.beq (Nat.mod m n) .zero with
  | true =>
    rw [bE_true]
    have h1 : m % n = 0 := beq_true hb
    have h2 : x % n = r % n := by rw [← hx, Nat.mod_mod_of_dvd x (Nat.dvd_of_mod_eq_zero h1)]
    rw [h2]
    have h3 : fN (Nat.mod r n) (fun q => AV.int .i64 (.ofNat q)) = .int .i64 (.ofNat (r % n)) := by
      show fN (r % n) _ = _
      cases r % n <;> rfl
    rw [h3]
    exact .int _ _
  | false =>
    rw [bE_false]
    have := Nat.mod_lt x (show 0 < n by omega)
    refine .rng _ _ _ _ (fun l hl => ?_) (fun l hl => ?_)
    · cases hl; show (0 : Int) ≤ _; omega
    · cases hl; show _ ≤ ((Nat.pred n : Nat) : Int); rw [Nat.pred_eq_sub_one]; omega
theorem anyR_rv {n x : Nat} (hn : 1 ≤ n) {ρ : Rho} : RV ρ (anyR n) (.int .i64 ((x : Int) % (n : Int))) := by
  have e0 : ((x : Int) % (n : Int)) = ((x % n : Nat) : Int) := by simp
  rw [e0]
  have := Nat.mod_lt x (show 0 < n by omega)
  refine .rng _ _ _ _ (fun l hl => ?_) (fun l hl => ?_)
  · cases hl; show (0 : Int) ≤ _; omega
  · cases hl; show _ ≤ ((Nat.pred n : Nat) : Int); rw [Nat.pred_eq_sub_one]; omega
theorem stage_eq {x : AV} {t : Nat} (h : Nat.beq (stage x) t = true) (ht : t ≠ 0) : ∃ i, x = .opx t i := by
  have h1 : stage x = t := beq_true h
  cases x <;> first | (exfalso; exact ht h1.symm) | skip
  rename_i t' i
  have : t' = t := h1
  subst this
  exact ⟨i, rfl⟩
theorem next_con {h : Tr AB} {c : Nat} {args : List AV} {v : AV} {m' : Nat} {o : Option (Nat × AB)} {xs : List Value} (hb : Base wb w0 gb) (e : nextK m1 r1 m2 r2 h c args = some (v, m', o)) (hz : RVs ρ args xs) (J : IY vs wb w0 gb yv m1 r1 m2 r2 B ρ G w) (rh : RH B ρ G w) (hp : ∀ n o, h.get n = some o → G n = some o) (fr : ∀ n, c ≤ n → n < c + m' → ρ n = none) :
    Calls Tryz.prog 117 xs.toArray w fun e w' => ∃ u ρ', e = .returned u ∧ ρ.le ρ' ∧ (∀ n, (n < c ∨ c + m' ≤ n) → ρ' n = ρ n) ∧ RV ρ' v u ∧ RH B ρ' (updG G o) w' ∧ Below B w w' ∧ invU (QT vs) (KC wb gb yv m1 r1 m2 r2) w0 gb B ρ' (updG G o) w' := by
  cases hz with
  | nil => cases e
  | cons hz1 hz2 => cases hz2 with
    | nil => cases e
    | cons hz2 hz3 => cases hz3 with
      | cons => cases e
      | nil =>
        obtain ⟨ha, e1⟩ := bE_none_eq e
        obtain ⟨⟨x, y⟩, hg, e2⟩ := oE_none_eq e1
        rw [pE_mk] at e2
        obtain ⟨n, hn, e3⟩ := oE_none_eq e2
        obtain ⟨hn1, e4⟩ := bE_none_eq e3
        have hn1' : 1 ≤ n := ble_true hn1
        obtain rfl := isPtr0_eq ha
        obtain rfl := ptrY_rv J hz1
        obtain rfl := inNat_eq hn
        cases hz2
        obtain ⟨hG, hy⟩ := y_of J rh hp hg
        obtain ⟨ns, hcs, k2, k3⟩ := J.ks
        have call := next_cs (n := (n : Int)) (by omega) (baseY hb J).2.2 hcs
        -- the block behind the call reads as nothing that is known
        have plain : ∀ v, (∀ ρ, RV ρ v (.int .i64 ((ns.headD 0 : Nat) % (n : Int)))) → (∀ n, c ≤ n → n < c + 0 → ρ n = none) → Calls Tryz.prog 117 #[.pointer (some ⟨gb, 0, none⟩), .int .i64 (n : Int)] w fun e w' => ∃ u ρ', e = .returned u ∧ ρ.le ρ' ∧ (∀ n, (n < c ∨ c + 0 ≤ n) → ρ' n = ρ n) ∧ RV ρ' v u ∧ RH B ρ' (updG G (gUpd y)) w' ∧ Below B w w' ∧ invU (QT vs) (KC wb gb yv m1 r1 m2 r2) w0 gb B ρ' (updG G (gUpd y)) w' := by
          intro v hv fr
          refine wrapU J rh fr (call.mono fun e w' ⟨he, hcs', hs, hw, hbel⟩ => ?_)
          have le : ρ.le (rhoN ρ c [] (fun _ => 0)) := rhoN_le (fun n h1 h2 => fr n h1 h2)
          refine ⟨_, [], fun _ => 0, ⟨he, rfl, fun _ h => (by simp at h), hv _, Nat.le_of_eq hs.symm, fun k _ hk => hw k hk, hbel, ⟨rfl, rfl, rbY (hy.mono le) (fun u _ => .any u) hcs'⟩, ⟨ns.tail, hcs', fun i z hz => ?_, fun i z hz => ?_⟩, fun i hi => absurd hi (by omega)⟩⟩
          · have e0 : upF G 0 (some (.cells .ro [.any, y])) 0 = some (.cells .ro [.opx 2 i, z]) := hz
            rw [upF_same] at e0; cases e0
          · have e0 : upF G 0 (some (.cells .ro [.any, y])) 0 = some (.cells .ro [.opx 3 i, z]) := hz
            rw [upF_same] at e0; cases e0
        cases h2 : Nat.beq (stage x) 2 with
        | true =>
          rw [h2, bE_true] at e4
          cases e4
          obtain ⟨i0, rfl⟩ := stage_eq h2 (by omega)
          obtain ⟨k4, k5⟩ := k2 _ _ hG
          refine wrapU J rh fr (call.mono fun e w' ⟨he, hcs', hs, hw, hbel⟩ => ?_)
          obtain ⟨sl, c1, c2, c3, c4⟩ := id hcs'
          have le : ρ.le (rhoN ρ c [sl] (fun _ => 3)) := rhoN_le fr
          refine ⟨_, [sl], fun _ => 3, ⟨he, rfl, fun x hx => ?_, known_rv hn1' k4, Nat.le_of_eq hs.symm, fun k _ hk => hw k hk, hbel, ⟨rfl, rfl, rbY (hy.mono le) (fun u hu => ?_) hcs'⟩, ⟨ns.tail, hcs', fun i z hz => ?_, fun i z hz => k5⟩, fun i hi cc' h => ?_⟩⟩
          · simp at hx; subst hx; exact c4.one
          · rw [c1] at hu; cases hu
            exact .opx 3 c ⟨0, 0, 0, sl, 3⟩ (rhoN_in (j := 0) (by simp)) rfl c4.one
          · have e0 : upF G 0 (some (.cells .ro [.opx 3 c, y])) 0 = some (.cells .ro [.opx 2 i, z]) := hz
            rw [upF_same] at e0; cases e0
          · have h' : (3 : Nat) = tcl cc' := h
            unfold tcl at h'; omega
        | false =>
          rw [h2, bE_false] at e4
          cases h3 : Nat.beq (stage x) 3 with
          | true =>
            rw [h3, bE_true] at e4
            cases e4
            obtain ⟨i0, rfl⟩ := stage_eq h3 (by omega)
            exact plain _ (fun ρ => known_rv hn1' (k3 _ _ hG)) fr
          | false =>
            rw [h3, bE_false] at e4
            cases e4
            exact plain _ (fun ρ => anyR_rv hn1') fr
end
end T1
namespace T1
open Go Go.Ab Go.Proofs
open Go.RowKit (Below)
theorem exL_eq (t : Nat) : exL t = exT' t := by
  unfold exL exT'
  by_cases h9 : t = 9
  · subst h9; rfl
  · have : Nat.beq t 9 = false := by cases hb : Nat.beq t 9 with
      | false => rfl
      | true => exact absurd (beq_true hb) h9
    rw [this, bE_false, if_neg h9]
    by_cases h10 : t = 10
    · subst h10; rfl
    · have : Nat.beq t 10 = false := by cases hb : Nat.beq t 10 with
        | false => rfl
        | true => exact absurd (beq_true hb) h10
      rw [this, bE_false, if_neg h10]
theorem all_mem {α : Type} {f : α → Bool} {l : List α} (h : l.all f = true) : ∀ x ∈ l, f x = true := List.all_eq_true.1 h
theorem _root_.Go.Ab.TEP.le {vs t d d' : Nat} {e : Ex} (h : TEP vs t d e) (hd : d ≤ d') : TEP vs t d' e := by
  obtain ⟨t', h1, h2⟩ := h
  exact ⟨t', h1, h2.le hd⟩
theorem subC_ok {vs c t d : Nat} {e : Ex} (h : subC c t d = true) (hq : QT vs c e) : TEP vs t d e := by
  unfold subC at h
  rw [Bool.and_eq_true] at h
  have hd : c / 16 ≤ d := ble_true h.1
  obtain ⟨t', h1, h2⟩ := hq
  have h3 := all_mem h.2 t' (by rw [exL_eq]; exact h1)
  rw [List.any_eq_true] at h3
  obtain ⟨x, hx, hb⟩ := h3
  obtain rfl := beq_true hb
  exact ⟨t', by rw [← exL_eq]; exact hx, h2.le hd⟩
theorem isZ4_eq {b1 : Bool} {m1 : List Nat} {b2 : Bool} {m2 : List Nat} (h : isZ4 b1 m1 b2 m2 = true) : b1 = false ∧ m1 = [] ∧ b2 = false ∧ m2 = [] := by
  unfold isZ4 at h
  rw [Bool.and_eq_true, Bool.and_eq_true, Bool.and_eq_true] at h
  obtain ⟨h1, h2, h3, h4⟩ := h
  exact ⟨by simpa using h1, (seq_iff _ _).1 h3, by simpa using h2, (seq_iff _ _).1 h4⟩
/-- classes of arguments that fit -/
theorem okArgs_ok {vs op t d : Nat} {l : List Nat} {nm : ByteArray} {b1 : Bool} {m1 : ByteArray} {b2 : Bool} {m2 : ByteArray} {ys : List Ex} (hB : Bare nm b1 m1 b2 m2) (h : okArgs op l t d = true) (hy : ys.length = l.length) (hq : ∀ (i : Nat) (c : Nat) (e : Ex), l[i]? = some c → ys[i]? = some e → QT vs c e) : TE vs t d (.mk (op : Int) nm b1 m1 b2 m2 ys) := by
  match l, ys, hy with
  | [a], [y], _ =>
    have h' : (Nat.ble (.succ (dpC a)) d && (exL (tyC a)).all (fun a => isR1 op a t)) = true := h
    rw [Bool.and_eq_true] at h'
    have hd : dpC a + 1 ≤ d := ble_true h'.1
    obtain ⟨d, rfl⟩ : ∃ d', d = d' + 1 := ⟨d - 1, by omega⟩
    obtain ⟨t', h1, h2⟩ := hq 0 a y rfl rfl
    exact .un hB (all_mem h'.2 t' (by rw [exL_eq]; exact h1)) (h2.le (by show a / 16 ≤ d; have : dpC a = a / 16 := rfl; omega))
  | [a, b], [y, z], _ =>
    have h' : (Nat.ble (.succ (dpC a)) d && (Nat.ble (.succ (dpC b)) d && (exL (tyC a)).all (fun a => (exL (tyC b)).all (fun b => isR2 op a b t)))) = true := h
    rw [Bool.and_eq_true, Bool.and_eq_true] at h'
    have hd : dpC a + 1 ≤ d := ble_true h'.1
    have hd2 : dpC b + 1 ≤ d := ble_true h'.2.1
    obtain ⟨d, rfl⟩ : ∃ d', d = d' + 1 := ⟨d - 1, by omega⟩
    obtain ⟨t1, h1, h2⟩ := hq 0 a y rfl rfl
    obtain ⟨t2, h3, h4⟩ := hq 1 b z rfl rfl
    exact .bin hB (all_mem (all_mem h'.2.2 t1 (by rw [exL_eq]; exact h1)) t2 (by rw [exL_eq]; exact h3)) (h2.le (by show a / 16 ≤ d; have : dpC a = a / 16 := rfl; omega)) (h4.le (by show b / 16 ≤ d; have : dpC b = b / 16 := rfl; omega))
  | [a, b, c], [x, y, z], _ =>
    have h' : (Nat.beq op 15 && (Nat.beq t 5 && (Nat.beq a 7 && (Nat.beq c 2 && (Nat.ble (.succ (dpC b)) d && (exL (tyC b)).all (fun b => Nat.beq b 7 || Nat.beq b 3)))))) = true := h
    rw [Bool.and_eq_true, Bool.and_eq_true, Bool.and_eq_true, Bool.and_eq_true, Bool.and_eq_true] at h'
    obtain ⟨e1, e2, e3, e4, e5, e6⟩ := h'
    have hd : dpC b + 1 ≤ d := ble_true e5
    obtain rfl := beq_true e1
    obtain rfl := beq_true e2
    obtain rfl := beq_true e3
    obtain rfl := beq_true e4
    obtain ⟨d, rfl⟩ : ∃ d', d = d' + 1 := ⟨d - 1, by omega⟩
    obtain ⟨t1, h1, h2⟩ := hq 0 7 x rfl rfl
    obtain ⟨t2, h3, h4⟩ := hq 1 b y rfl rfl
    obtain ⟨t3, h5, h6⟩ := hq 2 2 z rfl rfl
    have p1 : t1 = 7 := by simpa [exT'] using h1
    have p3 : t3 = 2 := by simpa [exT'] using h5
    subst p1; subst p3
    have hb := all_mem e6 t2 (by rw [exL_eq]; exact h3)
    have hb' : t2 = 7 ∨ t2 = 3 := by
      rcases Bool.or_eq_true _ _ ▸ hb with h | h
      · exact .inl (beq_true h)
      · exact .inr (beq_true h)
    exact .ter hB hb' h2 (h4.le (by show b / 16 ≤ d; have : dpC b = b / 16 := rfl; omega)) h6
  | [], _, _ => cases h
  | _ :: _ :: _ :: _ :: _, _, _ => cases h
theorem r1_has {op a t : Nat} (h : isR1 op a t = true) : (op, a, t) ∈ r1L := by
  unfold isR1 at h
  rw [List.any_eq_true] at h
  obtain ⟨⟨x, y, z⟩, hm, h⟩ := h
  rw [Bool.and_eq_true, Bool.and_eq_true] at h
  obtain ⟨h1, h2, h3⟩ := h
  obtain rfl := beq_true h1
  obtain rfl := beq_true h2
  obtain rfl := beq_true h3
  exact hm
theorem r2_has {op a b t : Nat} (h : isR2 op a b t = true) : (op, a, b, t) ∈ r2L := by
  unfold isR2 at h
  rw [List.any_eq_true] at h
  obtain ⟨⟨x, y, z, u⟩, hm, h⟩ := h
  rw [Bool.and_eq_true, Bool.and_eq_true, Bool.and_eq_true] at h
  obtain ⟨h1, h2, h3, h4⟩ := h
  obtain rfl := beq_true h1
  obtain rfl := beq_true h2
  obtain rfl := beq_true h3
  obtain rfl := beq_true h4
  exact hm
theorem r1_t : ∀ p ∈ r1L, 1 ≤ p.2.2 ∧ p.2.2 ≤ 8 := by decide
theorem r2_t : ∀ p ∈ r2L, 1 ≤ p.2.2.2 ∧ p.2.2.2 ≤ 8 := by decide
theorem leaf_t {vs op t : Nat} {nm : List Nat} {b1 : Bool} {m1 : List Nat} {b2 : Bool} {m2 : List Nat} (h : isLeaf vs op nm b1 m1 b2 m2 t = true) : 1 ≤ t ∧ t ≤ 8 := by
  unfold isLeaf at h
  split at h
  all_goals try (rw [Bool.and_eq_true, Bool.and_eq_true] at h)
  · have := beq_true h.2.2; omega
  · have := beq_true h.2.2; omega
  · have := beq_true h.2.2; omega
  · have := beq_true h.2.2; omega
  · cases h
theorem _root_.Go.Ab.TE.t_le {vs t d : Nat} {e : Ex} (h : TE vs t d e) : 1 ≤ t ∧ t ≤ 8 := by
  cases h with
  | leaf h => exact leaf_t h
  | un _ h _ => exact r1_t _ (r1_has h)
  | bin _ h _ _ => exact r2_t _ (r2_has h)
  | ter => omega
theorem _root_.Go.Ab.TE.p {vs t d : Nat} {e : Ex} (h : TE vs t d e) : TEP vs t d e := by
  have := h.t_le
  refine ⟨t, ?_, h⟩
  unfold exT'
  rw [if_neg (by omega), if_neg (by omega)]
  exact List.mem_singleton.2 rfl
section
variable {vs : Nat} {w0 : World} {gb B : Nat} {K : KP} {ρ : Rho} {G : Hp} {w : World}
theorem grpY (J : InvU (QT vs) K w0 gb B ρ G w) {l : List AV} {xs : List Value} (hg : isGrp l = true) (h : RVs ρ l xs) : ∃ ex, QT vs (clsOf l) ex ∧ IsEx w (Qt w0 ρ G w) ex xs := by
  have hl' : l = opxL (tcl (clsOf l)) (fstId l) 7 := grp_eq _ _ _ _ hg
  rw [hl'] at h
  obtain ⟨hl, hv⟩ := opxL_vals 7 _ _ h
  obtain ⟨L, h1, h2, _⟩ := hv 0 (by omega)
  obtain ⟨cs, ex, k1, k2, k3⟩ := J.tr _ L (clsOf l) h1 h2
  have : xs = cs := by
    apply List.ext_getElem?
    intro j
    by_cases hj : j < 7
    · obtain ⟨M, l1, _, l3⟩ := hv j hj
      obtain ⟨M', m1, _, m3⟩ := k3 j hj
      rw [Nat.add_zero] at m1
      rw [l1] at m1; cases m1
      rw [l3, m3]
    · rw [List.getElem?_eq_none (by omega), List.getElem?_eq_none (by rw [k2.one.1]; omega)]
  subst this
  exact ⟨ex, k1, k2⟩
theorem rowY (J : InvU (QT vs) K w0 gb B ρ G w) {T : Nat → Prop} (hT : ∀ k, Qt w0 ρ G w k → T k) {blk : Nat} : ∀ (n : Nat) (l : List AV) (off : Nat) (cl : List Nat), grpsC n l = some cl → (∀ (i : Nat) (v : AV), l[i]? = some v → ∃ u, w.cell? ⟨blk, off + i, none⟩ = some u ∧ RV ρ v u) →
    ∃ ys : List Ex, ys.length = n ∧ cl.length = n ∧ (∀ (i : Nat) (c : Nat) (e : Ex), cl[i]? = some c → ys[i]? = some e → QT vs c e) ∧ IsRow w T blk off ys
  | 0, l, off, cl, h, _ => by cases h; exact ⟨[], rfl, rfl, fun i c e h => by simp at h, .nil⟩
  | n + 1, l, off, cl, h, hc => by
    obtain ⟨q, hq, e1⟩ := oE_none_eq h
    obtain ⟨hg, e2⟩ := bE_none_eq e1
    obtain ⟨l', hd, e3⟩ := oE_none_eq e2
    obtain ⟨r, hr, e4⟩ := oE_none_eq e3
    cases e4
    obtain ⟨rfl, hle⟩ := takeN_eq _ _ _ hq
    obtain ⟨rfl, _⟩ := dropN_eq _ _ _ hd
    obtain ⟨xs, x1, x2⟩ := cells_list (ρ := ρ) (w := w) (blk := blk) (l.take 7) off fun i v hv => hc i v (by
      rw [List.getElem?_take] at hv
      split at hv
      · exact hv
      · cases hv)
    obtain ⟨ex, g1, g2⟩ := grpY J hg x1
    obtain ⟨ys, y1, y2, y3, y4⟩ := rowY J hT n (l.drop 7) (off + 7) r hr fun i v hv => by
      obtain ⟨u, l1, l2⟩ := hc (7 + i) v (by rw [List.getElem?_drop] at hv; exact hv)
      exact ⟨u, by rw [show off + 7 + i = off + (7 + i) by omega]; exact l1, l2⟩
    refine ⟨ex :: ys, by simp [y1], by simp [y2], fun i c e h1 h2 => ?_, .cons (g2.mono hT (fun _ _ => rfl)) x2 y4⟩
    cases i with
    | zero => simp at h1 h2; subst h1; subst h2; exact g1
    | succ i => exact y3 i c e (by simpa using h1) (by simpa using h2)
end
section
variable {vs : Nat} {w : World} {gb : Nat} {K : KP}
theorem closeG {vs0 t d : Nat} {s : St} (hs : ∀ n o, s.h.get n = some o → o.own = false) (hvs : ∀ op nm b1 m1 b2 m2 t, isLeaf vs0 op nm b1 m1 b2 m2 t = true → isLeaf vs op nm b1 m1 b2 m2 t = true) {ρ : Rho} {G : Hp} {v : AV} {h : Tr AB} {c : Nat} {tl : List Nat} {u : Value} {ρ' : Rho} {G' : Hp} {w' : World} (A : Aft gb ρ G w s v h c tl u ρ' G' w') (J : InvU (QT vs) K w gb gb ρ' G' w') (hc : closeT vs0 t d (.ok v h c tl) = true) : ∃ (cs : List Value) (ex : Ex), u = .agg cs.toArray ∧ TEP vs t d ex ∧ IsEx w' (fun k => w.heap.size ≤ k ∧ k < w'.heap.size) ex cs := by
  have tgm : ∀ k, Qt w ρ' G' w' k → (w.heap.size ≤ k ∧ k < w'.heap.size) := fun k hk => ⟨hk.1, hk.2.1⟩
  · have h1 : oE (asAgg v) false (fun l => bE (isGrp l) (subC (clsOf l) t d) (closeN vs0 h l t d)) = true := hc
    cases hv : asAgg v with
    | none => rw [hv] at h1; cases h1
    | some l =>
      obtain rfl := asAgg_eq hv
      rw [hv, oE_some] at h1
      have hu := A.rv
      cases hu with
      | agg _ X hX =>
        obtain ⟨X⟩ := X
        cases hg : isGrp l with
        | true =>
          rw [hg, bE_true] at h1
          obtain ⟨ex, g1, g2⟩ := grpY J hg hX
          exact ⟨X, ex, rfl, subC_ok h1 g1, g2.mono tgm (fun _ _ => rfl)⟩
        | false =>
          rw [hg, bE_false] at h1
          unfold closeN at h1
          split at h1
          · rename_i op nm b1 m1' b2 m2'
            match X, hX with
            | [x0, x1, x2, x3, x4, x5, x6], .cons r0 (.cons r1 (.cons r2 (.cons r3 (.cons r4 (.cons r5 (.cons r6 .nil)))))) =>
              cases r0; cases r2; cases r4; cases r6
              obtain ⟨s1, rfl, e1⟩ := rv_str r1
              obtain ⟨s3, rfl, e3⟩ := rv_str r3
              obtain ⟨s5, rfl, e5⟩ := rv_str r5
              rw [List.any_eq_true] at h1
              obtain ⟨t', ht', hl⟩ := h1
              refine ⟨_, .mk (op : Int) s1 b1 s3 b2 s5 [], rfl, ⟨t', by rw [← exL_eq]; exact ht', .leaf ?_⟩, .mk .nil⟩
              rw [e1, e3, e5]
              exact hvs _ _ _ _ _ _ _ hl
          · rename_i op nm b1 m1' b2 m2' n' l' cap
            rw [Bool.and_eq_true, Bool.and_eq_true, Bool.and_eq_true, Bool.and_eq_true, Bool.and_eq_true] at h1
            obtain ⟨d0, dz, d1, d2, d3, d4⟩ := h1
            obtain ⟨rfl, rfl, rfl, rfl⟩ := isZ4_eq dz
            obtain rfl := (seq_iff _ _).1 d0
            have l1 := ble_true d1
            have l3 := ble_true d2
            match X, hX with
            | [x0, x1, x2, x3, x4, x5, x6], .cons r0 (.cons r1 (.cons r2 (.cons r3 (.cons r4 (.cons r5 (.cons r6 .nil)))))) =>
              cases r0; cases r2; cases r4
              obtain ⟨s1, rfl, e1⟩ := rv_str r1
              obtain ⟨s3, rfl, e3⟩ := rv_str r3
              obtain ⟨s5, rfl, e5⟩ := rv_str r5
              have bare : Bare s1 false s3 false s5 := ⟨e1, rfl, e3, rfl, e5⟩
              cases hw : wcells h n' with
              | none => rw [hw] at d4; cases d4
              | some p =>
                obtain ⟨k, cc⟩ := p
                rw [hw, oE_some, pE_mk] at d4
                obtain ⟨hg', hk⟩ := wcells_eq hw
                have hG' : G' n' = some (.cells k cc) := by
                  by_cases hin : n' ∈ tl ∨ (s.c ≤ n' ∧ n' < c)
                  · exact A.on _ _ hin hg'
                  · exfalso
                    have hin1 : n' ∉ tl := fun h => hin (.inl h)
                    have hin2 : n' < s.c ∨ c ≤ n' := by
                      by_cases h7 : s.c ≤ n'
                      · refine .inr ?_
                        by_cases h8 : n' < c
                        · exact absurd (.inr ⟨h7, h8⟩) hin
                        · omega
                      · exact .inl (by omega)
                    have h9 := A.kp n' hin1 hin2
                    rw [hg'] at h9
                    have h10 := hs n' _ h9.symm
                    rw [own_of hk] at h10; cases h10
                obtain ⟨L, hL, hrb⟩ := A.rh.blk n' _ hG'
                have hown := J.own n' _ L hG' (own_of hk) hL
                have hin := A.rh.inn n' L hL
                cases hgr : grpsC l' cc with
                | none => rw [hgr] at d4; cases d4
                | some cl =>
                  rw [hgr, oE_some] at d4
                  obtain ⟨ys, y1, y2, y3, y4⟩ := rowY J tgm (blk := L.blk) l' cc L.base cl hgr fun i v hv => hrb.1 i v hv
                  have hte : TE vs t d (.mk (op : Int) s1 false s3 false s5 ys) := okArgs_ok bare d4 (by omega) y3
                  have fin2 : ∀ cp, l' ≤ cp → x6 = .slice (some ⟨L.blk, L.base + 0, none⟩) l' cp → ∃ (cs : List Value) (ex : Ex), Value.agg #[.int .i64 (Int.ofNat op), .string s1, .bool false, .string s3, .bool false, .string s5, x6] = .agg cs.toArray ∧ TEP vs t d ex ∧ IsEx w' (fun k => w.heap.size ≤ k ∧ k < w'.heap.size) ex cs := by
                    intro cp hcp hx6
                    refine ⟨[.int .i64 (Int.ofNat op), .string s1, .bool false, .string s3, .bool false, .string s5, x6], .mk (op : Int) s1 false s3 false s5 ys, rfl, ?_, ?_⟩
                    · exact hte.p
                    · cases ys with
                      | nil => simp at y1; omega
                      | cons a ys =>
                        rw [hx6, ← y1]
                        exact .mk (.row (by omega) ⟨hown, hin⟩ y4)
                  cases r6 with
                  | slf _ _ _ c2 M hM => rw [hL] at hM; cases hM; exact fin2 c2 (ble_true d3) rfl
                  | sle _ _ _ z cp M hM _ hle => rw [hL] at hM; cases hM; exact fin2 cp hle rfl
                  | slz => omega
                  | slx => omega
          · cases h1
end
theorem hY_own {yA : AV} {n : Nat} {o : AB} (h : (hY yA).get n = some o) : o.own = false := by
  have h' : ((Tr.lf : Tr AB).set 0 (.cells .ro [.opx 2 90, yA])).get n = some o := h
  rw [Tr.get_set] at h'
  by_cases h0 : n = 0
  · rw [if_pos h0] at h'; cases h'; rfl
  · rw [if_neg h0] at h'; simp at h'
section
variable {vs : Nat} {wb w : World} {gb m1 r1 m2 r2 : Nat} {yv : Value}
theorem closeY {vs0 t d : Nat} {yA : AV} (hvs : ∀ op nm b1 m1 b2 m2 t, isLeaf vs0 op nm b1 m1 b2 m2 t = true → isLeaf vs op nm b1 m1 b2 m2 t = true) {ρ : Rho} {G : Hp} {v : AV} {h : Tr AB} {c : Nat} {tl : List Nat} {u : Value} {ρ' : Rho} {G' : Hp} {w' : World} (A : Aft gb ρ G w (sY yA) v h c tl u ρ' G' w') (J : IY vs wb w gb yv m1 r1 m2 r2 gb ρ' G' w') (hc : closeT vs0 t d (.ok v h c tl) = true) : YRes (TEP vs t d) wb gb yv w (.returned u) w' := by
  obtain ⟨cs, ex, rfl, h1, h2⟩ := closeG (fun n o hn => hY_own hn) hvs A J hc
  exact ⟨cs, ex, rfl, h1, h2, A.bel, J.sz, J.old, by obtain ⟨ns, h, _⟩ := J.ks; exact ⟨ns, h⟩⟩
end
end T1
namespace T1
open Go Go.Ab Go.Proofs
open Go.RowKit (Below)
theorem fn117 : T1.E.fn.get 117 = some Tryz.f117 := by kernel_rfl
theorem fn119 : T1.E.fn.get 119 = some Tryz.f119 := by kernel_rfl
theorem fn120 : T1.E.fn.get 120 = some Tryz.f120 := by kernel_rfl
theorem fn121 : T1.E.fn.get 121 = some Tryz.f121 := by kernel_rfl
theorem fn122 : T1.E.fn.get 122 = some Tryz.f122 := by kernel_rfl
theorem fn56 : T1.E.fn.get 56 = some Tryz.f56 := by kernel_rfl
theorem body117 : Tryz.f117.body = some (bodyOf Tryz.f117) := by kernel_rfl
theorem body119 : Tryz.f119.body = some (bodyOf Tryz.f119) := by kernel_rfl
theorem body120 : Tryz.f120.body = some (bodyOf Tryz.f120) := by kernel_rfl
theorem body121 : Tryz.f121.body = some (bodyOf Tryz.f121) := by kernel_rfl
theorem body122 : Tryz.f122.body = some (bodyOf Tryz.f122) := by kernel_rfl
theorem body56 : Tryz.f56.body = some (bodyOf Tryz.f56) := by kernel_rfl
def yV (vs : Nat) : Value := .int .i64 (vs : Int)
def YS (vs f : Nat) (args : List Value) (q : Ex → Prop) : Prop := ∀ (wb w : World) (gb : Nat) (ns : List Nat), Base wb w gb → CS wb gb (yV vs) ns w → Calls Tryz.prog f (Value.pointer (some ⟨gb, 0, none⟩) :: args).toArray w (YRes q wb gb (yV vs) w)
def lvI (l : Nat) : Int := (l : Int) - 1
def NumS (vs : Nat) : Prop := YS vs 119 [] (TEP vs 2 0)
def PtS (vs : Nat) : Prop := YS vs 120 [] (TEP vs 7 0)
def TyS (vs l : Nat) : Prop := ∀ t, okTL t l = true → YS vs 56 [.int .i64 (t : Int), .int .i64 (lvI l)] (TEP vs t (l + 1))
def PlS (vs l : Nat) : Prop := YS vs 121 [.int .i64 (lvI l)] (TEP vs 9 (l + 1))
def AmS (vs l : Nat) : Prop := 2 ≤ l → YS vs 122 [.int .i64 (lvI l)] (TEP vs 10 (l + 1))
theorem inL_eq {v : AV} {l : Nat} (h : inL v = some l) : v = .int .i64 (lvI l) := by
  obtain ⟨⟨k, z⟩, hv, e1⟩ := oE_none_eq (show oE (asInt v) none (fun p => pE p (fun k z => bE (keq k .i64) (iE z (fun n => some (.succ n)) (fun n => nE n (some .zero) (fun _ => none))) none)) = some l from h)
  rw [pE_mk] at e1
  obtain ⟨hk, e2⟩ := bE_none_eq e1
  obtain rfl := keq_eq hk
  obtain rfl := asInt_eq hv
  cases z with
  | ofNat q =>
    have : some (Nat.succ q) = some l := e2
    cases this
    unfold lvI
    congr 1
    show (q : Int) = ((q + 1 : Nat) : Int) - 1
    omega
  | negSucc q =>
    cases q with
    | zero => have : some Nat.zero = some l := e2; cases this; rfl
    | succ q => cases e2
section
variable {vs : Nat} {wb w0 : World} {gb m1 r1 m2 r2 B : Nat} {ρ : Rho} {G : Hp} {w : World}
theorem conY0_ok {m1 r1 : Nat} (hb : Base wb w0 gb) {yv : Value} : ConOK Tryz.prog (conY0 m1 r1) (invU (QT vs) (KC wb gb yv m1 r1 1 0) w0 gb) := by
  intro f k hk h c args v m o hkm B ρ G w xs hz inv rh hB hp fr
  have h' : ((Tr.lf : Tr (Tr AB → Nat → List AV → ConR)).set 117 (nextK m1 r1 1 0)).get f = some k := hk
  rw [Tr.get_set] at h'
  by_cases h1 : f = 117
  · rw [if_pos h1] at h'; cases h'; subst h1
    exact ⟨has fn117 body117, next_con hb hkm hz inv rh hp fr⟩
  · rw [if_neg h1] at h'; simp at h'
abbrev Con1 (vs : Nat) (wb w0 : World) (gb m1 r1 m2 r2 : Nat) (B : Nat) (ρ : Rho) (G : Hp) (w : World) (f : Nat) (xs : List Value) (c m : Nat) (v : AV) (o : Option (Nat × AB)) : Prop := Calls Tryz.prog f xs.toArray w fun e w' => ∃ u ρ', e = .returned u ∧ ρ.le ρ' ∧ (∀ n, (n < c ∨ c + m ≤ n) → ρ' n = ρ n) ∧ RV ρ' v u ∧ RH B ρ' (updG G o) w' ∧ Below B w w' ∧ invU (QT vs) (KC wb gb (yV vs) m1 r1 m2 r2) w0 gb B ρ' (updG G o) w'
theorem leaf_con {f t : Nat} {h : Tr AB} {c : Nat} {args : List AV} {v : AV} {m : Nat} {o : Option (Nat × AB)} {xs : List Value} (ht : t < 16) (sp : YS vs f [] (TEP vs t 0)) (hb : Base wb w0 gb) (e : leafK t h c args = some (v, m, o)) (hz : RVs ρ args xs) (J : IY vs wb w0 gb (yV vs) m1 r1 m2 r2 B ρ G w) (rh : RH B ρ G w) (hp : ∀ n o, h.get n = some o → G n = some o) (fr : ∀ n, c ≤ n → n < c + m → ρ n = none) : Con1 vs wb w0 gb m1 r1 m2 r2 B ρ G w f xs c m v o := by
  cases hz with
  | nil => cases e
  | cons hz1 hz2 => cases hz2 with
    | cons => cases e
    | nil =>
      obtain ⟨ha, e1⟩ := bE_none_eq e
      obtain ⟨⟨x, y⟩, hg, e2⟩ := oE_none_eq e1
      rw [pE_mk] at e2
      obtain rfl := isPtr0_eq ha
      obtain rfl := ptrY_rv J hz1
      cases e2
      obtain ⟨ns, hcs, _⟩ := J.ks
      exact treeY ht J rh hp hg fr (sp wb w gb ns (baseY hb J) hcs)
theorem place_con {f t : Nat} {p : Nat → Bool} {h : Tr AB} {c : Nat} {args : List AV} {v : AV} {m : Nat} {o : Option (Nat × AB)} {xs : List Value} (ht : t < 16) (sp : ∀ l, p l = true → YS vs f [.int .i64 (lvI l)] (TEP vs t (l + 1))) (hb : Base wb w0 gb)
    (e : lE args none (fun a l => lE l none (fun n l => lE l (bE (isPtr0 a) (oE (gCells h) none (fun q => pE q (fun _ y => oE (inL n) none (fun n => bE (p n) (some (exC t (.succ n) c, nat_lit 7, gUpd y)) none)))) none) (fun _ _ => none))) = some (v, m, o))
    (hz : RVs ρ args xs) (J : IY vs wb w0 gb (yV vs) m1 r1 m2 r2 B ρ G w) (rh : RH B ρ G w) (hp : ∀ n o, h.get n = some o → G n = some o) (fr : ∀ n, c ≤ n → n < c + m → ρ n = none) : Con1 vs wb w0 gb m1 r1 m2 r2 B ρ G w f xs c m v o := by
  cases hz with
  | nil => cases e
  | cons hz1 hz2 => cases hz2 with
    | nil => cases e
    | cons hz2 hz3 => cases hz3 with
      | cons => cases e
      | nil =>
        obtain ⟨ha, e1⟩ := bE_none_eq e
        obtain ⟨⟨x, y⟩, hg, e2⟩ := oE_none_eq e1
        rw [pE_mk] at e2
        obtain ⟨l, hl, e3⟩ := oE_none_eq e2
        obtain ⟨hpl, e4⟩ := bE_none_eq e3
        obtain rfl := isPtr0_eq ha
        obtain rfl := ptrY_rv J hz1
        obtain rfl := inL_eq hl
        cases hz2
        cases e4
        obtain ⟨ns, hcs, _⟩ := J.ks
        exact treeY ht J rh hp hg fr (sp l hpl wb w gb ns (baseY hb J) hcs)
theorem typ_con {lv : Nat} {h : Tr AB} {c : Nat} {args : List AV} {v : AV} {m : Nat} {o : Option (Nat × AB)} {xs : List Value} (sp : ∀ l, l < lv → TyS vs l) (hb : Base wb w0 gb) (e : typK lv h c args = some (v, m, o))
    (hz : RVs ρ args xs) (J : IY vs wb w0 gb (yV vs) m1 r1 m2 r2 B ρ G w) (rh : RH B ρ G w) (hp : ∀ n o, h.get n = some o → G n = some o) (fr : ∀ n, c ≤ n → n < c + m → ρ n = none) : Con1 vs wb w0 gb m1 r1 m2 r2 B ρ G w 56 xs c m v o := by
  cases hz with
  | nil => cases e
  | cons hz1 hz2 => cases hz2 with
    | nil => cases e
    | cons hz2 hz3 => cases hz3 with
      | nil => cases e
      | cons hz3 hz4 => cases hz4 with
        | cons => cases e
        | nil =>
          obtain ⟨ha, e1⟩ := bE_none_eq e
          obtain ⟨⟨x, y⟩, hg, e2⟩ := oE_none_eq e1
          rw [pE_mk] at e2
          obtain ⟨t, ht, e3⟩ := oE_none_eq e2
          obtain ⟨l, hl, e4⟩ := oE_none_eq e3
          obtain ⟨hok, e5⟩ := bE_none_eq e4
          rw [Bool.and_eq_true] at hok
          obtain rfl := isPtr0_eq ha
          obtain rfl := ptrY_rv J hz1
          obtain rfl := inNat_eq ht
          obtain rfl := inL_eq hl
          cases hz2; cases hz3
          cases e5
          obtain ⟨ns, hcs, _⟩ := J.ks
          have ht8 : t < 16 := by
            have h1 := hok.1
            unfold okTL at h1
            cases h2 : Nat.ble 2 l with
            | true =>
              rw [h2, bE_true, Bool.and_eq_true, Bool.and_eq_true] at h1
              have := ble_true h1.2.1; omega
            | false =>
              rw [h2, bE_false] at h1
              cases h3 : Nat.beq l 1 with
              | true =>
                rw [h3, bE_true, Bool.or_eq_true, Bool.or_eq_true] at h1
                rcases h1 with h | h | h <;> have := beq_true h <;> omega
              | false =>
                rw [h3, bE_false, Bool.or_eq_true] at h1
                rcases h1 with h | h <;> have := beq_true h <;> omega
          exact treeY ht8 J rh hp hg fr (sp l (ble_true hok.2) t hok.1 wb w gb ns (baseY hb J) hcs)
theorem conY_ok {lt lp : Nat} (num : NumS vs) (pt : PtS vs) (ty : ∀ l, l < lt → TyS vs l) (pl : ∀ l, l < lp → PlS vs l) (am : ∀ l, l < lp → AmS vs l) (hb : Base wb w0 gb) : ConOK Tryz.prog (conY m1 r1 m2 r2 lt lp) (invU (QT vs) (KC wb gb (yV vs) m1 r1 m2 r2) w0 gb) := by
  intro f k hk h c args v m o hkm B ρ G w xs hz inv rh hB hp fr
  have h' : (((((((Tr.lf : Tr (Tr AB → Nat → List AV → ConR)).set 117 (nextK m1 r1 m2 r2)).set 119 (leafK 2)).set 120 (leafK 7)).set 121 (placeK lp)).set 122 (amountK lp)).set 56 (typK lt)).get f = some k := hk
  rw [Tr.get_set] at h'
  by_cases h1 : f = 56
  · rw [if_pos h1] at h'; cases h'; subst h1
    exact ⟨has fn56 body56, typ_con ty hb hkm hz inv rh hp fr⟩
  rw [if_neg h1, Tr.get_set] at h'
  by_cases h1 : f = 122
  · rw [if_pos h1] at h'; cases h'; subst h1
    refine ⟨has fn122 body122, place_con (t := 10) (p := fun n => Nat.ble 2 n && Nat.ble (.succ n) lp) (by omega) (fun l hl => ?_) hb hkm hz inv rh hp fr⟩
    rw [Bool.and_eq_true] at hl
    exact am l (ble_true hl.2) (ble_true hl.1)
  rw [if_neg h1, Tr.get_set] at h'
  by_cases h1 : f = 121
  · rw [if_pos h1] at h'; cases h'; subst h1
    exact ⟨has fn121 body121, place_con (t := 9) (p := fun n => Nat.ble (.succ n) lp) (by omega) (fun l hl => pl l (ble_true hl)) hb hkm hz inv rh hp fr⟩
  rw [if_neg h1, Tr.get_set] at h'
  by_cases h1 : f = 120
  · rw [if_pos h1] at h'; cases h'; subst h1
    exact ⟨has fn120 body120, leaf_con (by omega) pt hb hkm hz inv rh hp fr⟩
  rw [if_neg h1, Tr.get_set] at h'
  by_cases h1 : f = 119
  · rw [if_pos h1] at h'; cases h'; subst h1
    exact ⟨has fn119 body119, leaf_con (by omega) num hb hkm hz inv rh hp fr⟩
  rw [if_neg h1, Tr.get_set] at h'
  by_cases h1 : f = 117
  · rw [if_pos h1] at h'; cases h'; subst h1
    exact ⟨has fn117 body117, next_con hb hkm hz inv rh hp fr⟩
  · rw [if_neg h1] at h'; simp at h'
end
/-! runs -/
def rhoY (gb : Nat) (sl : Value) : Rho := fun n => if n = 0 then some (bLoc gb) else if n = 90 then some ⟨0, 0, 0, sl, 2⟩ else none
theorem hY_get {yA : AV} {n : Nat} {o : AB} (h : (hY yA).get n = some o) : n = 0 ∧ o = .cells .ro [.opx 2 90, yA] := by
  have h' : ((Tr.lf : Tr AB).set 0 (.cells .ro [.opx 2 90, yA])).get n = some o := h
  rw [Tr.get_set] at h'
  by_cases h0 : n = 0
  · rw [if_pos h0] at h'; cases h'; exact ⟨h0, rfl⟩
  · rw [if_neg h0] at h'; simp at h'
section
variable {vs : Nat}
theorem runY_gen {con : Tr (Tr AB → Nat → List AV → ConR)} {vs0 t d m1 r1 m2 r2 f : Nat} {fn : Func} {args : List AV} {xs : List Value} {yA : AV} (hvs : ∀ op nm b1 m1 b2 m2 t, isLeaf vs0 op nm b1 m1 b2 m2 t = true → isLeaf vs op nm b1 m1 b2 m2 t = true) (hfn : T1.E.fn.get f = some fn) (hbody : fn.body = some (bodyOf fn))
    {wb w : World} {gb : Nat} {ns : List Nat} (hb : Base wb w gb) (hcs : CS wb gb (yV vs) ns w) (hcon : ConOK Tryz.prog con (invU (QT vs) (KC wb gb (yV vs) m1 r1 m2 r2) w gb)) (hy : ∀ ρ, RV ρ yA (yV vs))
    (h1 : ns.headD 0 % m1 = r1) (h2 : ns.tail.headD 0 % m2 = r2) (hx : ∀ sl, RVs (rhoY gb sl) args xs)
    (chk : closeT vs0 t d (enter ⟨fnT, tyT, exT, con⟩ (exec ⟨fnT, tyT, exT, con⟩ 2000) (sY yA) args fn (bodyOf fn)) = true) :
    Calls Tryz.prog f xs.toArray w (YRes (TEP vs t d) wb gb (yV vs) w) := by
  obtain ⟨sl, g1, g2, g3, g4⟩ := id hcs
  cases hres : enter ⟨fnT, tyT, exT, con⟩ (exec ⟨fnT, tyT, exT, con⟩ 2000) (sY yA) args fn (bodyOf fn) with
  | no => rw [hres] at chk; cases chk
  | ok v h c tl =>
    rw [hres] at chk
    have hgw : gb < w.heap.size := Nat.lt_of_lt_of_le hb.1 hb.2.1
    have inn : ∀ n L, rhoY gb sl n = some L → L.blk < w.heap.size := by
      intro n L hL
      unfold rhoY at hL
      split at hL
      · cases hL; exact hgw
      · split at hL
        · cases hL; show 0 < w.heap.size; omega
        · cases hL
    have rh : RH gb (rhoY gb sl) (fun n => (hY yA).get n) w := by
      refine ⟨fun n o hg => ?_, fun n k a b L M hn _ _ _ _ ho => ?_, inn⟩
      · obtain ⟨rfl, rfl⟩ := hY_get hg
        refine ⟨bLoc gb, rfl, fun i v hv => ?_, trivial⟩
        match i, hv with
        | 0, hv => cases hv; exact ⟨sl, g1, .opx 2 90 ⟨0, 0, 0, sl, 2⟩ rfl rfl g4.one⟩
        | 1, hv => cases hv; exact ⟨_, g2, hy _⟩
        | i + 2, hv => simp at hv
      · obtain ⟨_, rfl⟩ := hY_get hn
        cases ho
    have inv : IY vs wb w gb (yV vs) m1 r1 m2 r2 gb (rhoY gb sl) (fun n => (hY yA).get n) w := by
      refine ⟨hgw, Nat.le_refl _, fun _ _ _ => rfl, fun n o L hn ho _ => ?_, fun n o L h0 hn _ => ?_, rfl, fun o ho => ?_, rfl, fun i L c hL ht => ?_, ⟨ns, hcs, fun _ _ _ => ⟨h1, h2⟩, fun i z hz => ?_⟩⟩
      · obtain ⟨_, rfl⟩ := hY_get hn; cases ho
      · exact absurd (hY_get hn).1 h0
      · obtain ⟨_, rfl⟩ := hY_get ho; rfl
      · unfold rhoY at hL
        split at hL
        · cases hL; unfold tcl at ht; exact absurd (show (0 : Nat) = 100 * c + 10 from ht) (by omega)
        · split at hL
          · cases hL; unfold tcl at ht; exact absurd (show (2 : Nat) = 100 * c + 10 from ht) (by omega)
          · cases hL
      · obtain ⟨_, h⟩ := hY_get hz; cases h
    refine run_gen (I := invU (QT vs) (KC wb gb (yV vs) m1 r1 m2 r2) w gb) (B := gb) (ρ := rhoY gb sl) (G := fun n => (hY yA).get n) (E := ⟨fnT, tyT, exT, con⟩) ⟨envOK_con _, invU_ok (KC_ok _ _ _ _ _ _ _), hcon⟩ bodyOK hfn hbody hres (hx sl) rh inv (Nat.le_of_lt hgw) (fun n hn => ?_) (fun n hn _ => ?_) (fun _ _ h => h) fun u ρ' G' w' A J => closeY hvs A J chk
    · have hn' : 100 ≤ n := hn
      cases hg : (sY yA).h.get n with
      | none => rfl
      | some o => have := (hY_get (yA := yA) (n := n) (o := o) hg).1; omega
    · have hn' : 100 ≤ n := hn
      unfold rhoY
      rw [if_neg (by omega), if_neg (by omega)]
end
end T1
