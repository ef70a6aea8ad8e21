/- A part of an evaluator of the program's operations over values that are known whole or in part, and of the proof that what it answers holds of the program's run. No condition. -/
import Derived.Test.YtofkgopegmoidaaGreatDoorWS15
namespace Go.Ab
open Go.RowKit (Below)
section
variable {P : Program} {E : Env} {B : Nat} {ρ : Rho} {G : Hp} {w : World}

theorem disp_ok {s : St} {a : Act} {rec : Rec} (hE : EnvOK P E) (rh : RH B ρ G w) (hB : B ≤ w.heap.size) (o : Oper) (tm : TO ρ s.t a o.op.operands.toList) {v : AV} {h : Tr AB} {c : Nat} {tl : List Nat}
    (hk : kindOp o.op ≠ 2) (e : disp o.op E rec s = .ok v h c tl) (fr : ∀ n, s.c ≤ n → n < c → ρ n = none)
    (hp : kindOp o.op = 1 → ∀ n ∈ refsO s.t o.op.operands.toList, ∀ b, s.h.get n = some b → G n = some b) : OpOK P B ρ G w s (execOp a.eval o) v h c tl := by
  obtain ⟨dst, op, type, pos, after, guard⟩ := o
  simp only at hk e hp tm
  cases op with
  | move x =>
    obtain ⟨e1, rfl, rfl, rfl⟩ := pureO_eq (show pureO s (ev s.t x) = .ok v h c tl from e)
    exact ⟨_, _, w, ρ, G, rfl, .inl rfl, AftO.pure rh (tm _ (by simp [Op.operands]) _ e1)⟩
  | assign x =>
    obtain ⟨e1, rfl, rfl, rfl⟩ := pureO_eq (show pureO s (ev s.t x) = .ok v h c tl from e)
    exact ⟨_, _, w, ρ, G, rfl, .inl rfl, AftO.pure rh (tm _ (by simp [Op.operands]) _ e1)⟩
  | pick q x y =>
    obtain ⟨e1, rfl, rfl, rfl⟩ := pureO_eq (show pureO s (oE (ev s.t q) none (pickB s x y)) = .ok v h c tl from e)
    obtain ⟨b, hb, e2⟩ := oE_none_eq e1
    obtain ⟨b', hb', e3⟩ := oE_none_eq (show oE (asBool b) none (fun c => bE c (ev s.t x) (ev s.t y)) = some v from e2)
    obtain rfl := asBool_eq hb'
    have hq := tm _ (by simp [Op.operands]) _ hb
    refine ⟨if b' then a.eval x else a.eval y, _, w, ρ, G, ?_, .inl rfl, AftO.pure rh ?_⟩
    · show (do Pure.pure (.value (if ← Go.asBool (a.eval q) then a.eval x else a.eval y)) : Sem Next).run P w = _
      generalize a.eval q = Q at hq
      cases hq
      simp [Go.asBool]
    · cases b' with
      | true => exact tm _ (by simp [Op.operands]) _ (show ev s.t x = some v from e3)
      | false => exact tm _ (by simp [Op.operands]) _ (show ev s.t y = some v from e3)
  | alloc t => exact OpOK.val (oAlloc_ok hE rh hB e fr)
  | box t x =>
    obtain ⟨xv, hxv, e1⟩ := oE_no_eq (show oE (ev s.t x) .no (fun v => oE (cellsO v) .no (fun cs => new s .fix cs ptr0)) = .ok v h c tl from e)
    obtain ⟨cs, hcs, e2⟩ := oE_no_eq e1
    exact OpOK.val (oBox_ok rh hB (tm _ (by simp [Op.operands]) _ hxv) hcs e2 fr)
  | build t ps =>
    obtain ⟨l, hl, e1⟩ := oE_no_eq (show oE (evp s.t ps.toList) .no (fun l => oE (E.ty.get t) .no (fun ti => pureO s (buildA E t ti l))) = .ok v h c tl from e)
    obtain ⟨ti, hti, e2⟩ := oE_no_eq e1
    obtain ⟨h1, h2⟩ := (tm.sub fun y hy => by simpa [Op.operands] using hy).evp hl
    exact OpOK.pure rh e2 (fun v hv => buildA_ok hE hti (by rw [h1]; simp [Function.comp_def]) (by simpa [Function.comp_def] using h2) hv)
  | buildSlice t n ps =>
    obtain ⟨l, hl, e1⟩ := oE_no_eq (show oE (evp s.t ps.toList) .no (fun l => oE (elemT E t) .no (fun ei =>
      bE (Nat.ble (Nat.mul n ei.size) (nat_lit 16777216)) (oE (fills (placeA ei.size) l (reps ei.z n)) .no (fun c => new s .fix c (sl0 n))) .no)) = .ok v h c tl from e)
    obtain ⟨ei, hei, e2⟩ := oE_no_eq e1
    obtain ⟨hn, e3⟩ := bE_no_eq e2
    obtain ⟨cs, hcs, e4⟩ := oE_no_eq e3
    obtain ⟨h1, h2⟩ := (tm.sub fun y hy => by simpa [Op.operands] using hy).evp hl
    exact OpOK.val (oBuildSlice_ok hE rh hB hei (by rw [h1]; simp [Function.comp_def]) (by simpa [Function.comp_def] using h2) (ble_true hn) hcs e4 fr)
  | insert t m k x =>
    obtain ⟨mv, hmv, e1⟩ := oE_no_eq (show oE (ev s.t m) .no (fun a => oE (ev s.t k) .no (fun b => oE (ev s.t x) .no (fun c => oE (E.ty.get t) .no (fun ti => mapUpd E s b c ti.d a)))) = .ok v h c tl from e)
    obtain ⟨kv, hkv, e2⟩ := oE_no_eq e1
    obtain ⟨xv, hxv, e3⟩ := oE_no_eq e2
    obtain ⟨ti, hti, e4⟩ := oE_no_eq e3
    exact OpOK.unit (mapUpd_ok hE rh (tm _ (by simp [Op.operands]) _ hmv) (tm _ (by simp [Op.operands]) _ hkv) (tm _ (by simp [Op.operands]) _ hxv) hti e4 (fun n hn => hp rfl n (refsO_mem (x := m) (by simp [Op.operands]) hmv hn)))
  | mapUpdate t m k x =>
    obtain ⟨mv, hmv, e1⟩ := oE_no_eq (show oE (ev s.t m) .no (fun a => oE (ev s.t k) .no (fun b => oE (ev s.t x) .no (fun c => oE (E.ty.get t) .no (fun ti => mapUpd E s b c ti.d a)))) = .ok v h c tl from e)
    obtain ⟨kv, hkv, e2⟩ := oE_no_eq e1
    obtain ⟨xv, hxv, e3⟩ := oE_no_eq e2
    obtain ⟨ti, hti, e4⟩ := oE_no_eq e3
    exact OpOK.unit (mapUpd_ok hE rh (tm _ (by simp [Op.operands]) _ hmv) (tm _ (by simp [Op.operands]) _ hkv) (tm _ (by simp [Op.operands]) _ hxv) hti e4 (fun n hn => hp rfl n (refsO_mem (x := m) (by simp [Op.operands]) hmv hn)))
  | load t x =>
    obtain ⟨xv, hxv, e1⟩ := oE_no_eq (show oE (ev s.t x) .no (fun v => pureO s (load E s.h t v)) = .ok v h c tl from e)
    exact OpOK.pure rh e1 (fun v hv => load_ok hE rh (tm _ (by simp [Op.operands]) _ hxv) hv (fun n hn => hp rfl n (refsO_mem (x := x) (by simp [Op.operands]) hxv hn)))
  | store t p x =>
    obtain ⟨pv, hpv, e1⟩ := oE_no_eq (show oE (ev s.t p) .no (fun a => oE (ev s.t x) .no (fun v => store E s t v a)) = .ok v h c tl from e)
    obtain ⟨xv, hxv, e2⟩ := oE_no_eq e1
    exact OpOK.unit (store_ok hE rh (tm _ (by simp [Op.operands]) _ hpv) (tm _ (by simp [Op.operands]) _ hxv) e2 (fun n hn => hp rfl n (refsO_mem (x := p) (by simp [Op.operands]) hpv hn)))
  | nilCheck x =>
    obtain ⟨e1, rfl, rfl, rfl⟩ := pureO_eq (show pureO s (oE (ev s.t x) none notNil) = .ok v h c tl from e)
    obtain ⟨xv, hxv, e2⟩ := oE_none_eq e1
    have hq := tm _ (by simp [Op.operands]) _ hxv
    unfold notNil at e2
    split at e2
    · cases e2
      refine ⟨a.eval x, .value (a.eval x), w, ρ, G, ?_, .inl rfl, AftO.pure rh hq⟩
      simp only [execOp]
      generalize a.eval x = Q at hq
      cases hq
      rfl
    · cases e2
      refine ⟨a.eval x, .value (a.eval x), w, ρ, G, ?_, .inl rfl, AftO.pure rh hq⟩
      simp only [execOp]
      generalize a.eval x = Q at hq
      cases hq
      rfl
    · cases e2
  | binOp op t x y hint =>
    obtain ⟨xv, hxv, e1⟩ := oE_no_eq (show oE (ev s.t x) .no (fun a => oE (ev s.t y) .no (fun b => pureO s (bin E op t a b))) = .ok v h c tl from e)
    obtain ⟨yv, hyv, e2⟩ := oE_no_eq e1
    exact OpOK.pure rh e2 (fun v hv => bin_ok hE (tm _ (by simp [Op.operands]) _ hxv) (tm _ (by simp [Op.operands]) _ hyv) hv)
  | unOp op t x =>
    obtain ⟨xv, hxv, e1⟩ := oE_no_eq (show oE (ev s.t x) .no (fun a => pureO s (un op a)) = .ok v h c tl from e)
    exact OpOK.pure rh e1 (fun v hv => un_ok (tm _ (by simp [Op.operands]) _ hxv) hv)
  | convert p q x =>
    obtain ⟨xv, hxv, e1⟩ := oE_no_eq (show oE (ev s.t x) .no (fun v => oE (E.ty.get p) .no (fun si => oE (E.ty.get q) .no (fun di => convert E s si.d di.d v))) = .ok v h c tl from e)
    obtain ⟨si, hsi, e2⟩ := oE_no_eq e1
    obtain ⟨di, hdi, e3⟩ := oE_no_eq e2
    obtain ⟨u, h1, h2⟩ := convert_ok hE rh (tm _ (by simp [Op.operands]) _ hxv) hsi hdi e3 (fun n hn => hp rfl n (refsO_mem (x := x) (by simp [Op.operands]) hxv hn))
    exact OpOK.val ⟨u, _, _, _, h1, h2⟩
  | makeFunc f first cap =>
    cases f with
    | func f =>
      obtain ⟨l, hl, e1⟩ := oE_no_eq (show oE (evs s.t first.toList) .no (fun a => oE (evs s.t cap.toList) .no (fun b => Go.Ab.pure s (.fn f a b))) = .ok v h c tl from e)
      obtain ⟨m, hm, e2⟩ := oE_no_eq e1
      rw [pure_eq] at e2
      cases e2
      refine OpOK.val ⟨_, w, ρ, G, rfl, AftO.pure rh (.fn _ _ _ _ _ ?_ ?_)⟩
      · simpa using (tm.sub (m := first.toList) fun y hy => by simp [Op.operands] at hy ⊢; exact .inl hy).evs hl
      · simpa using (tm.sub (m := cap.toList) fun y hy => by simp [Op.operands] at hy ⊢; exact .inr hy).evs hm
    | _ => cases e
  | makeMap t r =>
    cases r with
    | some x => cases e
    | none =>
      have e1 : newO s (.amap []) .map = .ok v h c tl := e
      rw [newO_eq] at e1
      cases e1
      have fr' := fr s.c (Nat.le_refl _) (Nat.lt_succ_self _)
      refine OpOK.val ⟨.map (some w.heap.size), w.alloc (.map #[] 0), _, _, ?_, AftO.new rh hB fr' (.map #[] 0) 0 ?_ ⟨hB, #[], 0, (Go.MapKept.heap_alloc w _).1, .nil⟩⟩
      · simp only [Instr.makeMap, Option.map_none]
        rfl
      · exact RV.map (ρ := upF ρ s.c (some ⟨w.heap.size, 0, 0, undef, 0⟩)) s.c _ (upF_same _ _ _)
  | makeSlice t l cp =>
    obtain ⟨lv, hlv, e1⟩ := oE_no_eq (show oE (ev s.t l) .no (fun lv => oE (ev s.t cp) .no (fun cv => oE (elemT E t) .no (fun ei => oE (inN lv) .no (fun ln => oE (inN cv) .no (fun cn => mkSl s ei ln cn))))) = .ok v h c tl from e)
    obtain ⟨cv, hcv, e2⟩ := oE_no_eq e1
    obtain ⟨ei, hei, e3⟩ := oE_no_eq e2
    obtain ⟨ln, hln, e4⟩ := oE_no_eq e3
    obtain ⟨cn, hcn, e5⟩ := oE_no_eq e4
    exact OpOK.val (mkSl_ok hE rh hB (tm _ (by simp [Op.operands]) _ hlv) (tm _ (by simp [Op.operands]) _ hcv) hei hln hcn e5 fr)
  | slice t x lo hi mx =>
    obtain ⟨xv, hxv, e1⟩ := oE_no_eq (show oE (ev s.t x) .no (fun v => pureO s (slice E s.t t v lo hi mx)) = .ok v h c tl from e)
    exact OpOK.pure rh e1 (fun v hv => slice_ok hE (tm.sub fun y hy => by simp [Op.operands] at hy ⊢; grind) (tm _ (by simp [Op.operands]) _ hxv) hv)
  | fieldAddr t x f =>
    obtain ⟨xv, hxv, e1⟩ := oE_no_eq (show oE (ev s.t x) .no (fun v => oE (fieldOf E t f) .no (fun p => pE p (fun off fi => pureO s (fAddr off fi.size v)))) = .ok v h c tl from e)
    obtain ⟨⟨off, fi⟩, hf, e2⟩ := oE_no_eq e1
    exact OpOK.pure rh e2 (fun v hv => fAddr_ok hE (tm _ (by simp [Op.operands]) _ hxv) hf hv)
  | field t x f =>
    obtain ⟨xv, hxv, e1⟩ := oE_no_eq (show oE (ev s.t x) .no (fun v => oE (fieldOf E t f) .no (fun p => pE p (fun off fi => pureO s (fPart off fi v)))) = .ok v h c tl from e)
    obtain ⟨⟨off, fi⟩, hf, e2⟩ := oE_no_eq e1
    exact OpOK.pure rh e2 (fun v hv => fPart_ok hE (tm _ (by simp [Op.operands]) _ hxv) hf hv)
  | indexAddr t x i =>
    obtain ⟨xv, hxv, e1⟩ := oE_no_eq (show oE (ev s.t x) .no (fun a => oE (ev s.t i) .no (fun b => pureO s (indexAddr E t a b))) = .ok v h c tl from e)
    obtain ⟨iv, hiv, e2⟩ := oE_no_eq e1
    exact OpOK.pure rh e2 (fun v hv => indexAddr_ok hE (tm _ (by simp [Op.operands]) _ hxv) (tm _ (by simp [Op.operands]) _ hiv) hv)
  | index t x i =>
    obtain ⟨xv, hxv, e1⟩ := oE_no_eq (show oE (ev s.t x) .no (fun a => oE (ev s.t i) .no (fun b => oE (inN b) .no (fun n => pureO s (indexV E t n a)))) = .ok v h c tl from e)
    obtain ⟨iv, hiv, e2⟩ := oE_no_eq e1
    obtain ⟨n, hn, e3⟩ := oE_no_eq e2
    obtain ⟨k, rfl⟩ := inN_eq hn
    have hi := tm _ (by simp [Op.operands]) _ hiv
    refine OpOK.pure (m := Instr.index t (a.eval x) (a.eval i)) rh e3 (fun v hv => ?_)
    generalize a.eval i = I at hi ⊢
    cases hi
    exact indexV_ok hE (tm _ (by simp [Op.operands]) _ hxv) hv
  | lookup t x k ok =>
    obtain ⟨xv, hxv, e1⟩ := oE_no_eq (show oE (ev s.t x) .no (fun a => oE (ev s.t k) .no (fun b => oE (E.ty.get t) .no (fun ti => lookup E s a b ok ti.d))) = .ok v h c tl from e)
    obtain ⟨kv, hkv, e2⟩ := oE_no_eq e1
    obtain ⟨ti, hti, e3⟩ := oE_no_eq e2
    obtain ⟨u, h1, h2⟩ := lookup_ok hE rh (tm _ (by simp [Op.operands]) _ hxv) (tm _ (by simp [Op.operands]) _ hkv) hti e3 (fun n hn => hp rfl n (refsO_mem (x := x) (by simp [Op.operands]) hxv hn))
    exact OpOK.val ⟨u, _, _, _, h1, h2⟩
  | range t x =>
    obtain ⟨xv, hxv, e1⟩ := oE_no_eq (show oE (ev s.t x) .no (fun v => oE (E.ty.get t) .no (fun ti => rangeV s ti.d v)) = .ok v h c tl from e)
    obtain ⟨ti, hti, e2⟩ := oE_no_eq e1
    exact OpOK.val (rangeV_ok hE rh hB (tm _ (by simp [Op.operands]) _ hxv) hti e2 fr)
  | next x str =>
    obtain ⟨xv, hxv, e1⟩ := oE_no_eq (show oE (ev s.t x) .no (next s str) = .ok v h c tl from e)
    obtain ⟨u, w', G', h1, h2⟩ := next_ok (T := type) rh (tm _ (by simp [Op.operands]) _ hxv) e1 (fun n hn => hp rfl n (refsO_mem (x := x) (by simp [Op.operands]) hxv hn))
    exact OpOK.val ⟨u, _, _, _, h1, h2⟩
  | makeInterface t x =>
    obtain ⟨xv, hxv, e1⟩ := oE_no_eq (show oE (ev s.t x) .no (fun v => oE (E.ty.get t) .no (fun ti => bE (isConc ti.d) (Go.Ab.pure s (.iface t v)) .no)) = .ok v h c tl from e)
    obtain ⟨ti, hti, e2⟩ := oE_no_eq e1
    obtain ⟨hc, e3⟩ := bE_no_eq e2
    rw [pure_eq] at e3
    cases e3
    obtain ⟨d, _, hr, _, hd⟩ := (hE.ty _ _ hti).und
    refine OpOK.val (m := Instr.makeInterface t (a.eval x)) ⟨.iface t (a.eval x), w, ρ, G, ?_, AftO.pure rh (.iface _ _ _ (tm _ (by simp [Op.operands]) _ hxv))⟩
    simp only [Instr.makeInterface, Sem.run_bind, hd, Result.andThen_ok]
    cases d <;> first
      | rfl
      | (cases hdd : ti.d <;> rw [hdd] at hr hc <;> first | (simp [DR] at hr; done) | (cases hc; done))
  | extract x i =>
    obtain ⟨e1, rfl, rfl, rfl⟩ := pureO_eq (show pureO s (oE (ev s.t x) none (tupAt i)) = .ok v h c tl from e)
    obtain ⟨xv, hxv, e2⟩ := oE_none_eq e1
    obtain ⟨l, hl, e3⟩ := oE_none_eq (show oE (asTup xv) none (fun l => nth l i) = some v from e2)
    obtain rfl := asTup_eq hl
    have hq := tm _ (by simp [Op.operands]) _ hxv
    rw [nth_eq] at e3
    refine OpOK.val (m := Instr.extract (a.eval x) i) ?_
    generalize a.eval x = Q at hq ⊢
    cases hq with
    | tup l xs hxs =>
      obtain ⟨u, hu, hr⟩ := hxs.get i e3
      refine ⟨u, w, ρ, G, ?_, AftO.pure rh hr⟩
      simp only [Instr.extract]
      rw [← Array.getElem?_toList, hu]
      rfl
  | call cl =>
    have hkc : kindC cl.callee ≠ 2 := hk
    obtain ⟨callee, args, argTypes⟩ := cl
    cases callee with
    | builtin b => exact bi_ok hE rh hB (by simpa [Op.operands, Call.operands] using tm) rfl e fr (fun n hn => hp rfl n (by simpa [Op.operands, Call.operands] using hn))
    | value x => exact absurd rfl hkc
    | invoke x n => exact absurd rfl hkc
  | _ => cases e
end
end Go.Ab
namespace Go.Ab

/-! What the evaluator leaves alone. -/
def Wf (h : Tr AB) (c : Nat) : Prop := ∀ n, c ≤ n → h.get n = none
def Gr (s : St) (r : Out) : Prop := ∀ v h c tl, r = .ok v h c tl → s.c ≤ c ∧ (∀ n, n ∉ tl → n < s.c → h.get n = s.h.get n) ∧ (Wf s.h s.c → Wf h c) ∧ ∀ n ∈ tl, ∃ o, s.h.get n = some o
theorem Gr.no (s : St) : Gr s .no := fun _ _ _ _ e => by cases e
theorem Gr.oE {α : Type} {s : St} {x : Option α} {f : α → Out} (h : ∀ a, Gr s (f a)) : Gr s (oE x .no f) := by
  cases x with
  | none => exact Gr.no s
  | some a => exact h a
theorem Gr.oE' {α : Type} {s : St} {x : Option α} {f : α → Out} (h : ∀ a, x = some a → Gr s (f a)) : Gr s (Go.Ab.oE x .no f) := by
  cases x with
  | none => exact Gr.no s
  | some a => exact h a rfl
theorem Gr.bE {s : St} {b : Bool} {x y : Out} (h : Gr s x) (k : Gr s y) : Gr s (bE b x y) := by cases b <;> assumption
theorem Gr.pE {α β : Type} {s : St} {p : α × β} {f : α → β → Out} (h : ∀ a b, Gr s (f a b)) : Gr s (pE p f) := h _ _
theorem Gr.pure (s : St) (v : AV) : Gr s (Go.Ab.pure s v) := fun _ _ _ _ e => by rw [pure_eq] at e; cases e; exact ⟨Nat.le_refl _, fun _ _ _ => rfl, fun h => h, by simp⟩
theorem Gr.pureO (s : St) (v : Option AV) : Gr s (Go.Ab.pureO s v) := by
  cases v with
  | none => exact Gr.no s
  | some v => exact Gr.pure s v
theorem Gr.newO (s : St) (o : AB) (f : Nat → AV) : Gr s (Go.Ab.newO s o f) := fun _ _ _ _ e => by
  rw [newO_eq] at e; cases e
  exact ⟨by omega, fun n _ hn => by rw [Tr.get_set, if_neg (by omega)], fun hw n hn => by rw [Tr.get_set, if_neg (by omega)]; exact hw n (by omega), by simp⟩
theorem Gr.upd (s : St) (v : AV) (n : Nat) (o : AB) (hn : ∃ o, s.h.get n = some o) : Gr s (Go.Ab.upd s v n o) := fun _ _ _ _ e => by
  rw [upd_eq] at e; cases e
  exact ⟨Nat.le_refl _, fun m hm _ => by rw [Tr.get_set, if_neg (by simpa using hm)], fun hw m hm => by
      obtain ⟨o', ho'⟩ := hn
      rw [Tr.get_set, if_neg (fun h => by rw [← h, hw m hm] at ho'; cases ho')]; exact hw m hm, fun m hm => by rw [List.mem_singleton.1 hm]; exact hn⟩
theorem Gr.storeC (s : St) (r : AV) (n o : Nat) (vs : List AV) : Gr s (Go.Ab.storeC s r n o vs) :=
  Gr.oE' fun ⟨_, _⟩ h => Gr.pE fun _ _ => Gr.oE fun _ => Gr.bE (Gr.upd _ _ _ _ ⟨_, (wcells_eq h).1⟩) (Gr.no s)
theorem elCells_get {h : Tr AB} {n : Nat} {c : List AV} (e : elCells h n = some c) : ∃ o, h.get n = some o := by
  obtain ⟨b, hb, _⟩ := oE_none_eq e
  exact ⟨b, hb⟩
theorem Gr.append (s : St) (z b m : Nat) (l : List AV) (x : AV) : Gr s (Go.Ab.append s z b m l x) := by
  unfold Go.Ab.append
  refine Gr.bE (Gr.bE (Gr.pure _ _) (Gr.no s)) ?_
  unfold appSome
  split
  · exact Gr.bE (Gr.newO _ _ _) (Gr.no s)
  · next n o ln cap =>
    refine Gr.bE ?_ (Gr.no s)
    unfold appCap
    split
    · exact Gr.bE (Gr.storeC _ _ _ _ _) (Gr.oE fun cs => Gr.oE fun old => Gr.newO _ _ _)
    · refine Gr.bE (Gr.oE' fun cs hcs => Gr.oE fun old => Gr.bE (Gr.oE fun cs' => Gr.upd _ _ _ _ (elCells_get hcs)) ?_) (Gr.no s)
      intro v h c tl e
      unfold appMove at e
      rw [upd_eq, show okE (Out.ok AV.nils (s.h.set n .dead) s.c [n]) Out.no (fun _ h c tl => newN c h (.cells .el (old ++ l)) (fun q => .sl q .zero (Nat.add ln m) (.el z)) tl) =
        newN s.c (s.h.set n .dead) (.cells .el (old ++ l)) (fun q => .sl q .zero (Nat.add ln m) (.el z)) [n] from rfl, newN_eq] at e
      cases e
      exact ⟨by omega, fun k hk hn => by rw [Tr.get_set, if_neg (by omega), Tr.get_set, if_neg (by simpa using hk)], fun hw k hk => by
        obtain ⟨o', ho'⟩ := elCells_get hcs
        rw [Tr.get_set, if_neg (by omega), Tr.get_set, if_neg (fun h => by rw [← h, hw k (by omega)] at ho'; cases ho')]; exact hw k (by omega), fun m hm => by rw [List.mem_singleton.1 hm]; exact elCells_get hcs⟩
  · exact Gr.no s
theorem Gr.convert (E : Env) (s : St) (a b : TD) (x : AV) : Gr s (Go.Ab.convert E s a b x) := by
  unfold Go.Ab.convert
  split
  · exact Gr.pureO _ _
  · exact Gr.pure _ _
  · exact Gr.bE (Gr.pure _ _) (Gr.no s)
  · exact Gr.bE (Gr.oE fun cs => Gr.oE fun l => Gr.pure _ _) (Gr.no s)
  · exact Gr.no s
theorem Gr.lookup (E : Env) (s : St) (x k : AV) (ok : Bool) (d : TD) : Gr s (Go.Ab.lookup E s x k ok d) := by
  unfold Go.Ab.lookup
  split
  · refine Gr.oE fun ki => Gr.bE (Gr.oE fun ei => Gr.oE fun es => Gr.oE fun r => ?_) (Gr.no s)
    cases r with
    | none => exact Gr.oE fun v => Gr.pure _ _
    | some v => exact Gr.pure _ _
  · exact Gr.no s
theorem Gr.mapUpd (E : Env) (s : St) (k v : AV) (d : TD) (x : AV) : Gr s (Go.Ab.mapUpd E s k v d x) := by
  unfold Go.Ab.mapUpd
  split
  · exact Gr.oE fun ki => Gr.bE (Gr.oE' fun es hes => Gr.oE fun es' => Gr.upd _ _ _ _ ⟨_, amap_eq hes⟩) (Gr.no s)
  · exact Gr.no s
theorem Gr.next (s : St) (str : Bool) (x : AV) : Gr s (Go.Ab.next s str x) := by
  unfold Go.Ab.next
  split
  · refine Gr.bE (Gr.oE' fun b hb => ?_) (Gr.no s)
    split
    · next l p =>
      unfold next1
      cases nth l p with
      | none => exact Gr.bE (Gr.pure _ _) (Gr.no s)
      | some b => exact Gr.bE (Gr.upd _ _ _ _ ⟨_, hb⟩) (Gr.no s)
    · exact Gr.no s
  · exact Gr.no s
theorem Gr.bi (E : Env) (s : St) (b : Builtin) (l : List Operand) (t : List TypeId) : Gr s (Go.Ab.bi E s b l t) := by
  unfold Go.Ab.bi
  split
  · exact Gr.oE fun v => Gr.oE fun ti => Gr.pureO _ _
  · exact Gr.oE fun a => Gr.oE fun b => Gr.oE fun ei => Gr.oE fun ui => Gr.bE (Gr.no s) (Gr.bE (Gr.oE fun m => Gr.oE fun cs => Gr.bE (Gr.append _ _ _ _ _ _) (Gr.no s)) (Gr.no s))
  · refine Gr.oE fun l => ?_
    cases l with
    | nil => exact Gr.no s
    | cons a r => exact Gr.pureO _ _
  · refine Gr.oE fun l => ?_
    cases l with
    | nil => exact Gr.no s
    | cons a r => exact Gr.pureO _ _
  · exact Gr.no s
theorem Gr.disp {E : Env} {rec : Rec} {s : St} (op : Op) (hk : kindOp op ≠ 2) : Gr s (Go.Ab.disp op E rec s) := by
  cases op with
  | move x => exact Gr.pureO _ _
  | assign x => exact Gr.pureO _ _
  | pick q x y => exact Gr.pureO _ _
  | alloc t => exact Gr.oE fun ti => Gr.newO _ _ _
  | box t x => exact Gr.oE fun v => Gr.oE fun cs => Gr.newO _ _ _
  | build t ps => exact Gr.oE fun l => Gr.oE fun ti => Gr.pureO _ _
  | buildSlice t n ps => exact Gr.oE fun l => Gr.oE fun ei => Gr.bE (Gr.oE fun c => Gr.newO _ _ _) (Gr.no s)
  | insert t m k x => exact Gr.oE fun a => Gr.oE fun b => Gr.oE fun c => Gr.oE fun ti => Gr.mapUpd _ _ _ _ _ _
  | mapUpdate t m k x => exact Gr.oE fun a => Gr.oE fun b => Gr.oE fun c => Gr.oE fun ti => Gr.mapUpd _ _ _ _ _ _
  | load t x => exact Gr.oE fun v => Gr.pureO _ _
  | store t p x => exact Gr.oE fun a => Gr.oE fun v => Gr.oE fun q => Gr.pE fun n o => Gr.oE fun ti => Gr.oE fun cs => Gr.bE (Gr.storeC _ _ _ _ _) (Gr.no s)
  | nilCheck x => exact Gr.pureO _ _
  | binOp op t x y hint => exact Gr.oE fun a => Gr.oE fun b => Gr.pureO _ _
  | unOp op t x => exact Gr.oE fun a => Gr.pureO _ _
  | convert p q x => exact Gr.oE fun v => Gr.oE fun si => Gr.oE fun di => Gr.convert _ _ _ _ _
  | makeFunc f first cap =>
    cases f with
    | func f => exact Gr.oE fun a => Gr.oE fun b => Gr.pure _ _
    | _ => exact Gr.no s
  | makeMap t r =>
    cases r with
    | some x => exact Gr.no s
    | none => exact Gr.newO _ _ _
  | makeSlice t l cp => exact Gr.oE fun lv => Gr.oE fun cv => Gr.oE fun ei => Gr.oE fun ln => Gr.oE fun cn => Gr.bE (Gr.newO _ _ _) (Gr.no s)
  | slice t x lo hi mx => exact Gr.oE fun v => Gr.pureO _ _
  | fieldAddr t x f => exact Gr.oE fun v => Gr.oE fun p => Gr.pE fun off fi => Gr.pureO _ _
  | field t x f => exact Gr.oE fun v => Gr.oE fun p => Gr.pE fun off fi => Gr.pureO _ _
  | indexAddr t x i => exact Gr.oE fun a => Gr.oE fun b => Gr.pureO _ _
  | index t x i => exact Gr.oE fun a => Gr.oE fun b => Gr.oE fun n => Gr.pureO _ _
  | lookup t x k ok => exact Gr.oE fun a => Gr.oE fun b => Gr.oE fun ti => Gr.lookup _ _ _ _ _ _
  | range t x =>
    refine Gr.oE fun v => Gr.oE fun ti => ?_
    unfold rangeV
    split
    · exact Gr.newO _ _ _
    · exact Gr.no s
  | next x str => exact Gr.oE fun v => Gr.next _ _ _
  | extract x i => exact Gr.pureO _ _
  | makeInterface t x => exact Gr.oE fun v => Gr.oE fun ti => Gr.bE (Gr.pure _ _) (Gr.no s)
  | call cl =>
    obtain ⟨callee, args, argTypes⟩ := cl
    cases callee with
    | builtin b => exact Gr.bi _ _ _ _ _
    | value x => exact absurd rfl hk
    | invoke x n => exact absurd rfl hk
  | _ => exact Gr.no s
end Go.Ab
namespace Go.Ab

theorem mem_note {b n : Nat} {wl : List Nat} {m : Nat} : m ∈ note b n wl ↔ m ∈ wl ∨ (m = n ∧ n < b) := by
  unfold note
  cases h : Nat.ble (.succ n) b with
  | false =>
    have := ble_false h
    rw [bE_false]
    constructor
    · exact .inl
    · rintro (h | h)
      · exact h
      · omega
  | true =>
    have hb : n < b := ble_true h
    rw [bE_true]
    cases h2 : mem n wl with
    | true =>
      have := (mem_eq n wl).1 h2
      rw [bE_true]
      constructor
      · exact .inl
      · rintro (h | ⟨rfl, _⟩) <;> assumption
    | false =>
      rw [bE_false, List.mem_cons]
      constructor
      · rintro (h | h)
        · exact .inr ⟨h, hb⟩
        · exact .inl h
      · rintro (h | h)
        · exact .inr h
        · exact .inl h.1
theorem mem_notesL {b m : Nat} : ∀ {tl : List Nat} {wl : List Nat}, m ∈ notesL tl b wl ↔ m ∈ wl ∨ (m ∈ tl ∧ m < b)
  | [], wl => by
    show m ∈ wl ↔ _
    simp
  | n :: tl, wl => by
    show m ∈ notesL tl b (note b n wl) ↔ _
    rw [mem_notesL, mem_note, List.mem_cons]
    constructor
    · rintro ((h | ⟨rfl, h⟩) | ⟨h, k⟩)
      · exact .inl h
      · exact .inr ⟨.inl rfl, h⟩
      · exact .inr ⟨.inr h, k⟩
    · rintro (h | ⟨rfl | h, k⟩)
      · exact .inl (.inl h)
      · exact .inl (.inr ⟨rfl, k⟩)
      · exact .inr ⟨h, k⟩
noncomputable def setD (t : Tr AV) (dst : Option Tmp) (v : AV) : Tr AV := match dst with
  | some d => t.set d v
  | none => t
theorem putS_eq (s : St) (dst : Option Tmp) (v : AV) (h : Tr AB) (c : Nat) (tl : List Nat) :
    putS s dst v h c tl = ⟨setD s.t dst v, h, c, s.b, notesL tl s.b s.wl⟩ := by
  show forceL (notesL tl s.b s.wl) (putD dst s.t v h c s.b) = _
  rw [forceL_eq]
  cases dst with
  | none => rfl
  | some d => exact putT_eq _ _ _ _ _
theorem skipS_eq (s : St) (dst : Option Tmp) : skipS s dst = ⟨setD s.t dst (.tup []), s.h, s.c, s.b, s.wl⟩ := by
  show putD dst s.t (.tup []) s.h s.c s.b s.wl = _
  cases dst with
  | none => rfl
  | some d => exact putT_eq _ _ _ _ _

/-- From one state to a later one of the same frame. -/
structure Mono (s s' : St) : Prop where
  cc : s.c ≤ s'.c
  bb : s'.b = s.b
  wl : ∀ n ∈ s.wl, n ∈ s'.wl
  wf : Wf s.h s.c → Wf s'.h s'.c
  kp : s.b ≤ s.c → ∀ n, n < s.b → n ∉ s'.wl → s'.h.get n = s.h.get n
  wb : s.b ≤ s.c → ∀ n ∈ s'.wl, n ∈ s.wl ∨ (n < s.b ∧ ∃ o, s.h.get n = some o)
theorem Mono.refl (s : St) : Mono s s := ⟨Nat.le_refl _, rfl, fun _ h => h, fun h => h, fun _ _ _ _ => rfl, fun _ _ h => .inl h⟩
theorem Mono.trans {a b c : St} (h : Mono a b) (k : Mono b c) : Mono a c := by
  refine ⟨Nat.le_trans h.cc k.cc, k.bb.trans h.bb, fun n hn => k.wl n (h.wl n hn), fun hw => k.wf (h.wf hw), fun hb n hn hw => ?_, fun hb n hn => ?_⟩
  · have := h.cc; have hbb := h.bb
    rw [k.kp (by omega) n (by omega) hw, h.kp hb n hn fun h3 => hw (k.wl n h3)]
  · have := h.cc; have hbb := h.bb
    rcases k.wb (by omega) n hn with h1 | ⟨h1, o, h2⟩
    · exact h.wb hb n h1
    · by_cases h3 : n ∈ b.wl
      · exact h.wb hb n h3
      · exact .inr ⟨by omega, o, by rw [← h.kp hb n (by omega) h3]; exact h2⟩
theorem Mono.put {s : St} {r : Out} (g : Gr s r) {dst : Option Tmp} {v : AV} {h : Tr AB} {c : Nat} {tl : List Nat} (e : r = .ok v h c tl) : Mono s (putS s dst v h c tl) := by
  obtain ⟨h1, h2, h3, h4⟩ := g v h c tl e
  rw [putS_eq]
  refine ⟨h1, rfl, fun n hn => mem_notesL.2 (.inl hn), h3, fun hb n hn hw => ?_, fun hb n hn => ?_⟩
  · exact h2 n (fun h5 => hw (mem_notesL.2 (.inr ⟨h5, hn⟩))) (by omega)
  · rcases mem_notesL.1 hn with h5 | ⟨h5, h6⟩
    · exact .inl h5
    · exact .inr ⟨h6, h4 n h5⟩
theorem Mono.skip (s : St) (dst : Option Tmp) : Mono s (skipS s dst) := by
  rw [skipS_eq]
  exact ⟨Nat.le_refl _, rfl, fun _ h => h, fun h => h, fun _ _ _ _ => rfl, fun _ _ h => .inl h⟩

def RecM (rec : Rec) : Prop := ∀ code s r s', rec code s = some (r, s') → Mono s s'
theorem pair_eq {α β : Type} (p : α × β) : p = (p.1, p.2) := rfl
theorem Gr.endF {E : Env} {fn : Func} {s : St} {p : Res × St} (h : ∀ v, Gr s (Go.Ab.back v p.2)) : Gr s (Go.Ab.endF E fn p) := by
  obtain ⟨r, s'⟩ := p
  cases r with
  | normal => exact Gr.oE fun l => h _
  | ret => exact Gr.oE fun l => h _
  | exit id => exact Gr.no s
theorem Gr.enter {E : Env} {rec : Rec} (hr : RecM rec) (s : St) (args : List AV) (fn : Func) (code : Code) : Gr s (Go.Ab.enter E rec s args fn code) := by
  show Gr s (forceT (params args .zero .lf) (runF E rec fn s.h s.c code))
  rw [forceT_eq]
  refine Gr.oE' fun p hp => Gr.endF fun v => ?_
  obtain ⟨r, s'⟩ := p
  have m := hr _ _ _ _ hp
  intro v' h c tl e
  rw [show Go.Ab.back v s' = out v s'.h s'.c s'.wl from rfl, out_eq] at e
  cases e
  refine ⟨m.cc, fun n hn hc => m.kp (Nat.le_refl _) n hc hn, m.wf, fun n hn => ?_⟩
  rcases m.wb (Nat.le_refl _) n hn with h | h
  · exact absurd h (by simp)
  · exact h.2
theorem Gr.fresh (s : St) (v : AV) (m : Nat) (o : Option (Nat × AB)) : Gr s (freshO s v m o) := by
  intro v' h c tl e
  have e' : fN (Nat.add s.c m) (fun c => Go.Ab.oE o (Out.ok v s.h c []) (fun p => Go.Ab.pE p fun n b => Go.Ab.oE (s.h.get n) .no (fun _ => out v (s.h.set n b) c [n]))) = .ok v' h c tl := e
  rw [fN_eq] at e'
  cases o with
  | none =>
    cases (show Out.ok v s.h (Nat.add s.c m) [] = .ok v' h c tl from e')
    exact ⟨Nat.le_add_right _ _, fun _ _ _ => rfl, fun hw n hn => hw n (Nat.le_trans (Nat.le_add_right _ _) hn), fun _ h => by simp at h⟩
  | some p =>
    obtain ⟨n, b⟩ := p
    obtain ⟨x, hx, e2⟩ := oE_no_eq (show Go.Ab.oE (s.h.get n) .no (fun _ => out v (s.h.set n b) (Nat.add s.c m) [n]) = .ok v' h c tl from e')
    rw [out_eq] at e2
    cases e2
    refine ⟨Nat.le_add_right _ _, fun k hk _ => ?_, fun hw k hk => ?_, fun k hk => ?_⟩
    · rw [Tr.get_set, if_neg (by simpa using hk)]
    · rw [Tr.get_set]
      split
      · next h =>
        subst h
        rw [hw k (Nat.le_trans (Nat.le_add_right _ _) hk)] at hx
        cases hx
      · exact hw k (Nat.le_trans (Nat.le_add_right _ _) hk)
    · obtain rfl : k = n := by simpa using hk
      exact ⟨x, hx⟩
theorem Gr.callF {E : Env} {rec : Rec} (hr : RecM rec) (s : St) (f : Nat) (args : List AV) : Gr s (Go.Ab.callF E rec s f args) := by
  unfold Go.Ab.callF
  cases E.ext.get f with
  | none =>
    rw [oE_none]
    cases E.con.get f with
    | none => exact Gr.oE fun fn => Gr.oE fun body => Gr.enter hr s args fn body
    | some k => exact Gr.oE fun p => by rw [pair_eq p, pair_eq p.2]; exact Gr.fresh _ _ _ _
  | some k => exact Gr.pureO _ _
theorem Gr.all {E : Env} {rec : Rec} (hr : RecM rec) (s : St) (op : Op) : Gr s (Go.Ab.disp op E rec s) := by
  by_cases hk : kindOp op = 2
  · cases op with
    | call cl =>
      obtain ⟨callee, args, argTypes⟩ := cl
      cases callee with
      | builtin b => exact Gr.bi _ _ _ _ _
      | value x => exact Gr.oE fun v => Gr.oE fun l => Gr.oE fun p => Gr.pE fun f q => Gr.pE fun first cap => Gr.callF hr _ _ _
      | invoke x n => exact Gr.no s
    | _ => cases hk
  · exact Gr.disp op hk
theorem putO_eq {r : Out} {s s' : St} {dst : Option Tmp} (e : putO r s dst = some s') : ∃ v h c tl, r = .ok v h c tl ∧ s' = putS s dst v h c tl := by
  cases r with
  | no => cases e
  | ok v h c tl => cases e; exact ⟨v, h, c, tl, rfl, rfl⟩
/-- what one operation of a region in the order of its text comes to -/
theorem stepOp_eq {E : Env} {rec : Rec} {ops : List Oper} {s s' : St} {o : Oper} (e : stepOp E rec ops s o = some s') :
    (wanted ops s o.guard = some true ∧ ∃ v h c tl, disp o.op E rec s = .ok v h c tl ∧ s' = putS s o.dst v h c tl) ∨ (wanted ops s o.guard = some false ∧ s' = skipS s o.dst) := by
  unfold stepOp at e
  cases hg : o.guard with
  | none => rw [hg] at e; exact .inl ⟨rfl, putO_eq e⟩
  | some g =>
    rw [hg, oE_some] at e
    obtain ⟨b, hb, e1⟩ := oE_none_eq e
    cases b with
    | true => exact .inl ⟨hb, putO_eq e1⟩
    | false => cases e1; exact .inr ⟨hb, rfl⟩
theorem Mono.stepOp {E : Env} {rec : Rec} (hr : RecM rec) {ops : List Oper} {s s' : St} {o : Oper} (e : Go.Ab.stepOp E rec ops s o = some s') : Mono s s' := by
  rcases stepOp_eq e with ⟨_, v, h, c, tl, h1, rfl⟩ | ⟨_, rfl⟩
  · exact Mono.put (Gr.all hr s o.op) h1
  · exact Mono.skip _ _
theorem Mono.runOps {E : Env} {rec : Rec} (hr : RecM rec) {ops : List Oper} : ∀ {l : List Oper} {s s' : St}, Go.Ab.runOps E rec ops l s = some s' → Mono s s'
  | [], s, s', e => by cases e; exact Mono.refl _
  | o :: l, s, s', e => by
    obtain ⟨s1, h1, h2⟩ := oE_none_eq (show oE (Go.Ab.stepOp E rec ops s o) none (forceS (Go.Ab.runOps E rec ops l)) = some s' from e)
    rw [forceS_eq] at h2
    exact (Mono.stepOp hr h1).trans (Mono.runOps hr h2)
/-- what one operation of a region that draws comes to -/
theorem runD_cons {E : Env} {rec : Rec} {ops : List Oper} {e : Ent} {p : List Ent} {s s' : St} {l : List Rcd} (h : runD E rec ops (e :: p) s l = some s') :
    (wanted ops s e.o.guard = some true ∧ ∃ v h c tl l', disp e.o.op E rec s = .ok v h c tl ∧ recd e s c tl l = some l' ∧ runD E rec ops p (putS s e.o.dst v h c tl) l' = some s') ∨
      (wanted ops s e.o.guard = some false ∧ runD E rec ops p (skipS s e.o.dst) l = some s') := by
  obtain ⟨b, hb, h1⟩ := oE_none_eq (show oE (wanted ops s e.o.guard) none (fun w => bE w (goD e (runD E rec ops p) (disp e.o.op E rec s) s l) (forceS (fun s' => runD E rec ops p s' l) (skipS s e.o.dst))) = some s' from h)
  cases b with
  | true =>
    rw [bE_true] at h1
    cases hd : disp e.o.op E rec s with
    | no => rw [hd] at h1; cases h1
    | ok v h c tl =>
      rw [hd] at h1
      obtain ⟨l', h2, h3⟩ := oE_none_eq (show oE (recd e s c tl l) none (fun l' => forceS (fun s' => runD E rec ops p s' l') (putS s e.o.dst v h c tl)) = some s' from h1)
      rw [forceS_eq] at h3
      exact .inl ⟨hb, v, h, c, tl, l', rfl, h2, h3⟩
  | false =>
    rw [bE_false, forceS_eq] at h1
    exact .inr ⟨hb, h1⟩
theorem Mono.runD {E : Env} {rec : Rec} (hr : RecM rec) {ops : List Oper} : ∀ {p : List Ent} {s s' : St} {l : List Rcd}, Go.Ab.runD E rec ops p s l = some s' → Mono s s'
  | [], s, s', l, e => by cases e; exact Mono.refl _
  | e :: p, s, s', l, h => by
    rcases runD_cons h with ⟨_, v, h, c, tl, l', h1, _, h3⟩ | ⟨_, h3⟩
    · exact (Mono.put (Gr.all hr s e.o.op) h1).trans (Mono.runD hr h3)
    · exact (Mono.skip _ _).trans (Mono.runD hr h3)
theorem Mono.step {E : Env} {rec : Rec} (hr : RecM rec) (code : Code) (s : St) (r : Res) (s' : St) (e : Go.Ab.step code E rec s = some (r, s')) : Mono s s' := by
  have hseq : ∀ {b : Code} {p : Res × St}, seqK rec b p = some (r, s') → Mono s p.2 → Mono s s' := by
    intro b p h m
    obtain ⟨q, s1⟩ := p
    cases q with
    | normal => exact m.trans (hr _ _ _ _ (show rec b s1 = some (r, s') from h))
    | exit id => cases (show some (Res.exit id, s1) = some (r, s') from h); exact m
    | ret => cases (show some (Res.ret, s1) = some (r, s') from h); exact m
  cases code with
  | skip => cases e; exact Mono.refl _
  | region id ops draw =>
    have e1 : Go.Ab.region E rec ops.toList draw s = some (r, s') := e
    unfold Go.Ab.region at e1
    cases draw with
    | true =>
      obtain ⟨s1, h1, h2⟩ := oE_none_eq (show oE (Go.Ab.runD E rec ops.toList (plan ops.toList) s []) none nrm = some (r, s') from e1)
      cases h2
      exact Mono.runD hr h1
    | false =>
      obtain ⟨s1, h1, h2⟩ := oE_none_eq (show oE (Go.Ab.runOps E rec ops.toList ops.toList s) none nrm = some (r, s') from e1)
      cases h2
      exact Mono.runOps hr h1
  | seq a b =>
    obtain ⟨⟨q, s1⟩, h1, h2⟩ := oE_none_eq (show oE (rec a s) none (seqK rec b) = some (r, s') from e)
    exact hseq h2 (hr _ _ _ _ h1)
  | cond c a b =>
    obtain ⟨v, hv, h1⟩ := oE_none_eq (show oE (ev s.t c) none (condK rec a b s) = some (r, s') from e)
    obtain ⟨q, _, h2⟩ := oE_none_eq (show oE (asBool v) none (fun c => rec (bE c a b) s) = some (r, s') from h1)
    exact hr _ _ _ _ h2
  | block id b =>
    obtain ⟨⟨q, s1⟩, h1, h2⟩ := oE_none_eq (show oE (rec b s) none (blockK id) = some (r, s') from e)
    have m := hr _ _ _ _ h1
    cases q with
    | normal => cases (show some (Res.normal, s1) = some (r, s') from h2); exact m
    | ret => cases (show some (Res.ret, s1) = some (r, s') from h2); exact m
    | exit j =>
      have h3 : bE (Nat.beq j id) (some (Res.normal, s1)) (some (Res.exit j, s1)) = some (r, s') := h2
      cases hb : Nat.beq j id with
      | true => rw [hb, bE_true] at h3; cases h3; exact m
      | false => rw [hb, bE_false] at h3; cases h3; exact m
  | loop b =>
    obtain ⟨⟨q, s1⟩, h1, h2⟩ := oE_none_eq (show oE (rec b s) none (seqK rec (.loop b)) = some (r, s') from e)
    exact hseq h2 (hr _ _ _ _ h1)
  | exit id => cases e; exact Mono.refl _
  | label l => cases e; exact Mono.refl _
  | ret => cases e; exact Mono.refl _
  | _ => cases e
theorem Mono.exec (E : Env) : ∀ n, RecM (Go.Ab.exec E n)
  | 0 => fun _ _ _ _ e => by cases e
  | n + 1 => fun code s r s' e => Mono.step (Mono.exec E n) code s r s' e
end Go.Ab
