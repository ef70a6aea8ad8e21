/- A part of an evaluator of the program's operations over values that are known whole or in part, and of the proof that what it answers holds of the program's run. No condition. -/
import Derived.Test.YtofkgopegmoidaaGreatDoorWS38
namespace T1
open Go Go.Ab Go.Proofs
open Go.RowKit (Below)
noncomputable section
/-! rational.Compare of small whole numbers: every pair, in the kernel. -/
def E0 : Env := ⟨fnT, tyT, exT, .lf⟩
def outV (r : Out) : Option AV := okE r none (fun v _ _ _ => some v)
theorem outV_eq {r : Out} {v : AV} (h : outV r = some v) : ∃ h' c tl, r = .ok v h' c tl := by
  cases r with
  | no => cases h
  | ok v' h' c tl => cases (show some v' = some v from h); exact ⟨h', c, tl, rfl⟩
/-- nothing is asked of the world -/
def invT : Inv := fun _ _ _ _ => True
theorem invT_ok : InvOK invT := fun _ _ _ _ _ _ _ _ _ => trivial
theorem con_lf (I : Inv) : ConOK Tryz.prog .lf I := fun f k h => by simp at h
/-- the denominator of a whole number -/
theorem fn145 : T1.E.fn.get 145 = some Tryz.f145 := by kernel_rfl
theorem body145 : Tryz.f145.body = some (bodyOf Tryz.f145) := by kernel_rfl
def oneA : AV := .agg [.bool false, .str [1]]
theorem den_run : outV (enter E0 (exec E0 2000) ⟨.lf, .lf, 2, 2, []⟩ [.agg [.op 0, .op 1, .bool false, .str []]] Tryz.f145 (bodyOf Tryz.f145)) = some oneA := by kernel_rfl
def isFalse (v : AV) : Bool := oE (asBool v) false (fun b => bE b false true)
def isEmpty (v : AV) : Bool := oE (asStr v) false (fun l => lE l true (fun _ _ => false))
def denC (l : List AV) : Option AV := lE l none (fun a l => lE l none (fun b l => lE l none (fun c l => lE l none (fun d l => lE l (bE (scal a && scal b && (isFalse c && isEmpty d)) (some oneA) none) (fun _ _ => none)))))
def denK (_ : Tr AB) (_ : Nat) (l : List AV) : ConR := res0 (lE l none (fun x l => lE l (oE (asAgg x) none denC) (fun _ _ => none)))
theorem rv_str {ρ : Rho} {l : List Nat} {v : Value} (h : RV ρ (.str l) v) : ∃ s, v = .string s ∧ bytesOf s = l := by
  generalize hl : AV.str l = L at h
  cases h <;> cases hl
  exact ⟨_, rfl, rfl⟩
theorem rv_str_mk {ρ : Rho} {l : List Nat} {s : ByteArray} (h : bytesOf s = l) : RV ρ (.str l) (.string s) := h ▸ .str s
theorem oneA_rv {ρ ρ' : Rho} {u : Value} (h : RV ρ oneA u) : RV ρ' oneA u := by
  cases h with
  | agg l x hx =>
    obtain ⟨x⟩ := x
    cases hx with
    | cons h1 h2 => cases h2 with
      | cons h2 h3 =>
        cases h3
        cases h1
        obtain ⟨s, rfl, hs⟩ := rv_str h2
        exact .agg _ _ (.cons (.bool _) (.cons (rv_str_mk hs) .nil))
theorem den_call (v0 v1 v2 v3 : Value) (w : World) (h0 : 0 < w.heap.size) (k0 : v0.oneCell' = true) (k1 : v1.oneCell' = true) (k2 : RV (fun _ => none) (.bool false) v2) (k3 : RV (fun _ => none) (.str []) v3) :
    Calls Tryz.prog 145 #[.agg #[v0, v1, v2, v3]] w fun e w' => ∃ u, e = .returned u ∧ (∀ ρ, RV ρ oneA u) ∧ Below w.heap.size w w' := by
  obtain ⟨h', c, tl, hok⟩ := outV_eq den_run
  let ρ : Rho := fun n => if n = 0 then some (vloc v0) else if n = 1 then some (vloc v1) else none
  have le : Rho.le (fun _ => none) ρ := fun _ _ h => by cases h
  refine run_gen (I := invT) (B := w.heap.size) (ρ := ρ) (G := fun _ => none) (xs := [.agg #[v0, v1, v2, v3]]) ⟨envOK_con _, invT_ok, con_lf _⟩ bodyOK fn145 body145 hok
    (.cons (.agg _ _ (.cons (.op 0 (vloc v0) rfl k0) (.cons (.op 1 (vloc v1) rfl k1) (.cons (k2.mono le) (.cons (k3.mono le) .nil))))) .nil)
    ⟨fun _ _ h => (by cases h), fun _ _ _ _ _ _ h => (by cases h), fun n L h => ?_⟩ trivial (Nat.le_refl _) (fun _ _ => by simp) (fun n h1 _ => ?_) (fun _ _ h => by simp at h) fun u ρ' G' w' A _ => ⟨u, rfl, fun _ => oneA_rv A.rv, A.bel⟩
  · have h' : (if n = 0 then some (vloc v0) else if n = 1 then some (vloc v1) else none) = some L := h
    split at h'
    · cases h'; exact h0
    · split at h'
      · cases h'; exact h0
      · cases h'
  · have : 2 ≤ n := h1
    show (if n = 0 then some (vloc v0) else if n = 1 then some (vloc v1) else none) = none
    rw [if_neg (by omega), if_neg (by omega)]
/-- the world has a block -/
def invP : Inv := fun _ _ _ w => 0 < w.heap.size
theorem invP_ok : InvOK invP := fun _ _ _ _ _ _ _ h st => Nat.lt_of_lt_of_le h st.sz
/-- cmp.Compare of two known numbers -/
def cmpJ (_ : Tr AB) (_ : Nat) (l : List AV) : ConR := res0 (two (fun a b => oE (asInt a) none (fun p => oE (asInt b) none (fun q => pE p (fun j x => pE q (fun k y => bE (keq j .i64 && keq k .i64) (some (i64r (cmpI x y))) none))))) l)
def conQ : Tr (Tr AB → Nat → List AV → ConR) := (Tr.lf.set 145 denK).set 47 cmpJ
def EQ : Env := ⟨fnT, tyT, exT, conQ⟩
theorem conQ_ok : ConOK Tryz.prog conQ invP := by
  intro f k hk H c args v m o hkm B ρ G w zs hz inv rh hB hp fr
  have hk' : (((Tr.lf : Tr (Tr AB → Nat → List AV → ConR)).set 145 denK).set 47 cmpJ).get f = some k := hk
  rw [Tr.get_set, Tr.get_set] at hk'
  by_cases h2 : f = 47
  · rw [if_pos h2] at hk'; cases hk'; subst h2
    refine ⟨has fn47 body47, ?_⟩
    obtain ⟨e1, rfl, rfl⟩ := res0_eq hkm
    obtain ⟨p, q, rfl, e2⟩ := two_eq e1
    obtain ⟨⟨j, x⟩, hx, e3⟩ := oE_none_eq e2
    obtain ⟨⟨k, y⟩, hy, e4⟩ := oE_none_eq e3
    rw [pE_mk, pE_mk] at e4
    obtain ⟨e5, e6⟩ := bE_none_eq e4
    cases e6
    rw [Bool.and_eq_true] at e5
    obtain rfl := keq_eq e5.1
    obtain rfl := keq_eq e5.2
    obtain rfl := asInt_eq hx
    obtain rfl := asInt_eq hy
    cases hz with
    | cons hz1 hz2 => cases hz2 with
      | cons hz2 hz3 =>
        cases hz3; cases hz1; cases hz2
        refine (cmp_int x y w).mono fun e w' ⟨he, hw⟩ => ?_
        subst hw
        exact ⟨_, ρ, he, Rho.le_refl _, fun _ _ => rfl, .int _ _, rh, Below.refl _ _, inv⟩
  rw [if_neg h2] at hk'
  by_cases h1 : f = 145
  · rw [if_pos h1] at hk'; cases hk'; subst h1
    refine ⟨has fn145 body145, ?_⟩
    obtain ⟨e1, rfl, rfl⟩ := res0_eq hkm
    cases hz with
    | nil => cases e1
    | cons hz1 hz2 => cases hz2 with
      | cons => cases e1
      | nil =>
        obtain ⟨l, hl, e2⟩ := oE_none_eq e1
        obtain rfl := asAgg_eq hl
        cases hz1 with
        | agg l X hX =>
          obtain ⟨X⟩ := X
          match l, X, hX, e2 with
          | [a0, a1, a2, a3], [x0, x1, x2, x3], .cons r0 (.cons r1 (.cons r2 (.cons r3 .nil))), e2 =>
            obtain ⟨e3, e4⟩ := bE_none_eq (show bE (scal a0 && scal a1 && (isFalse a2 && isEmpty a3)) (some oneA) none = some v from e2)
            cases e4
            rw [Bool.and_eq_true, Bool.and_eq_true, Bool.and_eq_true] at e3
            have q2 : a2 = .bool false := by
              have := e3.2.1
              unfold isFalse at this
              cases hb : asBool a2 with
              | none => rw [hb] at this; cases this
              | some b => rw [hb] at this; cases b with
                | true => cases this
                | false => exact asBool_eq hb
            have q3 : a3 = .str [] := by
              have := e3.2.2
              unfold isEmpty at this
              cases hb : asStr a3 with
              | none => rw [hb] at this; cases this
              | some b => rw [hb] at this; cases b with
                | nil => exact asStr_eq hb
                | cons => cases this
            subst q2; subst q3
            have k2 : RV (fun _ => none) (.bool false) x2 := by cases r2; exact .bool _
            have k3 : RV (fun _ => none) (.str []) x3 := by
              obtain ⟨s, rfl, hs⟩ := rv_str r3
              exact rv_str_mk hs
            refine (den_call x0 x1 x2 x3 w inv (scal_one r0 e3.1.1) (scal_one r1 e3.1.2) k2 k3).mono fun e w' ⟨u, he, hu, hw⟩ => ?_
            exact ⟨u, ρ, he, Rho.le_refl _, fun _ _ => rfl, hu ρ, rh.grow hw, hw.mono hB, Nat.lt_of_lt_of_le inv hw.size⟩
          | [], _, _, e2 => cases e2
          | [_], _, _, e2 => cases e2
          | [_, _], _, _, e2 => cases e2
          | [_, _, _], _, _, e2 => cases e2
          | _ :: _ :: _ :: _ :: _ :: _, _, _, e2 => cases e2
  · rw [if_neg h1] at hk'; simp at hk'
def mag (n : Nat) : List Nat := nE n [] (fun k => [.succ k])
def ratA (n : Int) : AV := iE n (fun k => .agg [.bool false, .str (mag k), .bool false, .str []]) (fun k => .agg [.bool true, .str [.succ k], .bool false, .str []])
def ints : List Int := [.negSucc 2, .negSucc 1, .negSucc 0] ++ (List.range 61).map Int.ofNat
def chkQ (n : Int) : Bool := allB (fun m => isInt (cmpI n m) (enter EQ (exec EQ 2000) ⟨.lf, .lf, 0, 0, []⟩ [ratA n, ratA m] Tryz.f49 (bodyOf Tryz.f49))) ints
theorem ints_has {n : Int} (h1 : -3 ≤ n) (h2 : n ≤ 60) : n ∈ ints := by
  unfold ints
  rw [List.mem_append]
  by_cases h : 0 ≤ n
  · exact .inr (List.mem_map.2 ⟨n.toNat, List.mem_range.2 (by omega), by show ((n.toNat : Nat) : Int) = n; omega⟩)
  · have : n = -3 ∨ n = -2 ∨ n = -1 := by omega
    rcases this with rfl | rfl | rfl <;> exact .inl (by decide)
theorem ratA_rv {ρ : Rho} {n : Int} {m1 m2 : ByteArray} (h1 : bytesOf m1 = (if n = 0 then [] else [n.natAbs])) (h2 : bytesOf m2 = []) : RV ρ (ratA n) (.agg #[.bool (decide (n < 0)), .string m1, .bool false, .string m2]) := by
  cases n with
  | ofNat k =>
    have hd : decide (Int.ofNat k < 0) = false := by simp
    rw [hd]
    refine .agg _ _ (.cons (.bool _) (.cons (rv_str_mk ?_) (.cons (.bool _) (.cons (rv_str_mk h2) .nil))))
    rw [h1]
    cases k with
    | zero => rfl
    | succ k => rw [if_neg (by simp; omega)]; rfl
  | negSucc k =>
    have hd : decide (Int.negSucc k < 0) = true := by simp
    rw [hd]
    refine .agg _ _ (.cons (.bool _) (.cons (rv_str_mk ?_) (.cons (.bool _) (.cons (rv_str_mk h2) .nil))))
    rw [h1, if_neg (by simp)]; rfl
theorem numV_eq {n : Int} {m : ByteArray} (h : bytesOf m = (if n = 0 then [] else [n.natAbs])) : numV (decide (n < 0)) m = n := by
  have hm : m.data.toList.map (·.toNat) = (if n = 0 then [] else [n.natAbs]) := h
  unfold numV
  by_cases h0 : n = 0
  · rw [if_pos h0] at hm
    rw [List.map_eq_nil_iff.1 hm, h0]; simp
  · rw [if_neg h0] at hm
    cases hl : m.data.toList with
    | nil => rw [hl] at hm; cases hm
    | cons x r =>
      rw [hl] at hm
      simp only [List.map_cons, List.cons.injEq, List.map_eq_nil_iff] at hm
      obtain ⟨hx, rfl⟩ := hm
      simp only [List.foldl_cons, List.foldl_nil, hx]
      by_cases hn : n < 0
      · simp [hn]; omega
      · simp [hn]; omega
theorem num_of (hall : ∀ n ∈ ints, chkQ n = true) : NumC := by
  rintro b1 m1 b2 m2 b1' m1' b2' m2' w h0 ⟨n, k1, k2, rfl, k4, rfl, k6⟩ ⟨n', k1', k2', rfl, k4', rfl, k6'⟩
  obtain ⟨h', c, tl, hok⟩ := isInt_eq (allB_ok (hall n (ints_has k1 k2)) n' (ints_has k1' k2'))
  unfold cmpQ
  rw [numV_eq k4, numV_eq k4']
  refine run_gen (I := invP) (B := w.heap.size) (ρ := fun _ => none) (G := fun _ => none) (xs := [_, _]) ⟨envOK_con _, invP_ok, conQ_ok⟩ bodyOK fn49 body49 hok (.cons (ratA_rv k4 k6) (.cons (ratA_rv k4' k6') .nil))
    ⟨fun _ _ h => (by cases h), fun _ _ _ _ _ _ h => (by cases h), fun n L h => (by cases h)⟩ h0 (Nat.le_refl _) (fun _ _ => by simp) (fun _ _ _ => rfl) (fun _ _ h => by simp at h) fun u ρ' G' w' A _ => ?_
  have := A.rv
  cases this
  exact ⟨rfl, A.bel⟩
end
end T1
