/- A part of an evaluator of the program's operations over values that are known whole or in part, and of the proof that what it answers holds of the program's run. No condition. -/
import Derived.Test.YtlegocibpfflnaaGreatDoorS15
namespace Go.Ab
open Go.RowKit (Below)
section
variable {P : Program} {E : Env} {B : Nat} {ρ : Rho} {G : Hp} {w : World}

theorem disp_ok {s : St} {a : Act} {rec : Rec} (hE : EnvOK P E) (rh : RH B ρ G w) (hB : B ≤ w.heap.size) (o : Oper) (tm : TO ρ s.t a o.op.operands.toList) {v : AV} {h : Tr AB} {c : Nat} {tl : List Nat}
    (hk : kindOp o.op ≠ 2) (e : disp o.op E rec s = .ok v h c tl) (fr : ∀ n, s.c ≤ n → n < c → ρ n = none)
    (hp : kindOp o.op = 1 → ∀ n ∈ refsO s.t o.op.operands.toList, ∀ b, s.h.get n = some b → G n = some b) : OpOK P B ρ G w s (execOp a.eval o) v h c tl := by
  obtain ⟨dst, op, type, pos, after, guard⟩ := o
  simp only at hk e hp tm
  cases op with
  | move x =>
    obtain ⟨e1, rfl, rfl, rfl⟩ := pureO_eq (show pureO s (ev s.t x) = .ok v h c tl from e)
    exact ⟨_, _, w, ρ, G, rfl, .inl rfl, Aft.pure rh (tm _ (by simp [Op.operands]) _ e1)⟩
  | assign x =>
    obtain ⟨e1, rfl, rfl, rfl⟩ := pureO_eq (show pureO s (ev s.t x) = .ok v h c tl from e)
    exact ⟨_, _, w, ρ, G, rfl, .inl rfl, Aft.pure rh (tm _ (by simp [Op.operands]) _ e1)⟩
  | pick q x y =>
    obtain ⟨e1, rfl, rfl, rfl⟩ := pureO_eq (show pureO s (oE (ev s.t q) none (pickB s x y)) = .ok v h c tl from e)
    obtain ⟨b, hb, e2⟩ := oE_none_eq e1
    obtain ⟨b', hb', e3⟩ := oE_none_eq (show oE (asBool b) none (fun c => bE c (ev s.t x) (ev s.t y)) = some v from e2)
    obtain rfl := asBool_eq hb'
    have hq := tm _ (by simp [Op.operands]) _ hb
    refine ⟨if b' then a.eval x else a.eval y, _, w, ρ, G, ?_, .inl rfl, Aft.pure rh ?_⟩
    · show (do Pure.pure (.value (if ← Go.asBool (a.eval q) then a.eval x else a.eval y)) : Sem Next).run P w = _
      generalize a.eval q = Q at hq
      cases hq
      simp [Go.asBool]
    · cases b' with
      | true => exact tm _ (by simp [Op.operands]) _ (show ev s.t x = some v from e3)
      | false => exact tm _ (by simp [Op.operands]) _ (show ev s.t y = some v from e3)
  | alloc t => exact OpOK.val (oAlloc_ok hE rh hB e fr)
  | box t x =>
    obtain ⟨xv, hxv, e1⟩ := oE_no_eq (show oE (ev s.t x) .no (fun v => oE (cellsO v) .no (fun cs => new s .fix cs ptr0)) = .ok v h c tl from e)
    obtain ⟨cs, hcs, e2⟩ := oE_no_eq e1
    exact OpOK.val (oBox_ok rh hB (tm _ (by simp [Op.operands]) _ hxv) hcs e2 fr)
  | build t ps =>
    obtain ⟨l, hl, e1⟩ := oE_no_eq (show oE (evp s.t ps.toList) .no (fun l => oE (E.ty.get t) .no (fun ti => pureO s (buildA E t ti l))) = .ok v h c tl from e)
    obtain ⟨ti, hti, e2⟩ := oE_no_eq e1
    obtain ⟨h1, h2⟩ := (tm.sub fun y hy => by simpa [Op.operands] using hy).evp hl
    exact OpOK.pure rh e2 (fun v hv => buildA_ok hE hti (by rw [h1]; simp [Function.comp_def]) (by simpa [Function.comp_def] using h2) hv)
  | buildSlice t n ps =>
    obtain ⟨l, hl, e1⟩ := oE_no_eq (show oE (evp s.t ps.toList) .no (fun l => oE (elemT E t) .no (fun ei =>
      bE (Nat.ble (Nat.mul n ei.size) (nat_lit 16777216)) (oE (fills (placeA ei.size) l (reps ei.z n)) .no (fun c => new s .fix c (sl0 n))) .no)) = .ok v h c tl from e)
    obtain ⟨ei, hei, e2⟩ := oE_no_eq e1
    obtain ⟨hn, e3⟩ := bE_no_eq e2
    obtain ⟨cs, hcs, e4⟩ := oE_no_eq e3
    obtain ⟨h1, h2⟩ := (tm.sub fun y hy => by simpa [Op.operands] using hy).evp hl
    exact OpOK.val (oBuildSlice_ok hE rh hB hei (by rw [h1]; simp [Function.comp_def]) (by simpa [Function.comp_def] using h2) (ble_true hn) hcs e4 fr)
  | insert t m k x =>
    obtain ⟨mv, hmv, e1⟩ := oE_no_eq (show oE (ev s.t m) .no (fun a => oE (ev s.t k) .no (fun b => oE (ev s.t x) .no (fun c => oE (E.ty.get t) .no (fun ti => mapUpd E s b c ti.d a)))) = .ok v h c tl from e)
    obtain ⟨kv, hkv, e2⟩ := oE_no_eq e1
    obtain ⟨xv, hxv, e3⟩ := oE_no_eq e2
    obtain ⟨ti, hti, e4⟩ := oE_no_eq e3
    exact OpOK.unit (mapUpd_ok hE rh (tm _ (by simp [Op.operands]) _ hmv) (tm _ (by simp [Op.operands]) _ hkv) (tm _ (by simp [Op.operands]) _ hxv) hti e4 (fun n hn => hp rfl n (refsO_mem (x := m) (by simp [Op.operands]) hmv hn)))
  | mapUpdate t m k x =>
    obtain ⟨mv, hmv, e1⟩ := oE_no_eq (show oE (ev s.t m) .no (fun a => oE (ev s.t k) .no (fun b => oE (ev s.t x) .no (fun c => oE (E.ty.get t) .no (fun ti => mapUpd E s b c ti.d a)))) = .ok v h c tl from e)
    obtain ⟨kv, hkv, e2⟩ := oE_no_eq e1
    obtain ⟨xv, hxv, e3⟩ := oE_no_eq e2
    obtain ⟨ti, hti, e4⟩ := oE_no_eq e3
    exact OpOK.unit (mapUpd_ok hE rh (tm _ (by simp [Op.operands]) _ hmv) (tm _ (by simp [Op.operands]) _ hkv) (tm _ (by simp [Op.operands]) _ hxv) hti e4 (fun n hn => hp rfl n (refsO_mem (x := m) (by simp [Op.operands]) hmv hn)))
  | load t x =>
    obtain ⟨xv, hxv, e1⟩ := oE_no_eq (show oE (ev s.t x) .no (fun v => pureO s (load E s.h t v)) = .ok v h c tl from e)
    exact OpOK.pure rh e1 (fun v hv => load_ok hE rh (tm _ (by simp [Op.operands]) _ hxv) hv (fun n hn => hp rfl n (refsO_mem (x := x) (by simp [Op.operands]) hxv hn)))
  | store t p x =>
    obtain ⟨pv, hpv, e1⟩ := oE_no_eq (show oE (ev s.t p) .no (fun a => oE (ev s.t x) .no (fun v => store E s t v a)) = .ok v h c tl from e)
    obtain ⟨xv, hxv, e2⟩ := oE_no_eq e1
    exact OpOK.unit (store_ok hE rh (tm _ (by simp [Op.operands]) _ hpv) (tm _ (by simp [Op.operands]) _ hxv) e2 (fun n hn => hp rfl n (refsO_mem (x := p) (by simp [Op.operands]) hpv hn)))
  | nilCheck x =>
    obtain ⟨e1, rfl, rfl, rfl⟩ := pureO_eq (show pureO s (oE (ev s.t x) none notNil) = .ok v h c tl from e)
    obtain ⟨xv, hxv, e2⟩ := oE_none_eq e1
    have hq := tm _ (by simp [Op.operands]) _ hxv
    unfold notNil at e2
    split at e2
    · cases e2
      refine ⟨a.eval x, .value (a.eval x), w, ρ, G, ?_, .inl rfl, Aft.pure rh hq⟩
      simp only [execOp]
      generalize a.eval x = Q at hq
      cases hq
      rfl
    · cases e2
      refine ⟨a.eval x, .value (a.eval x), w, ρ, G, ?_, .inl rfl, Aft.pure rh hq⟩
      simp only [execOp]
      generalize a.eval x = Q at hq
      cases hq
      rfl
    · cases e2
  | binOp op t x y hint =>
    obtain ⟨xv, hxv, e1⟩ := oE_no_eq (show oE (ev s.t x) .no (fun a => oE (ev s.t y) .no (fun b => pureO s (bin E op t a b))) = .ok v h c tl from e)
    obtain ⟨yv, hyv, e2⟩ := oE_no_eq e1
    exact OpOK.pure rh e2 (fun v hv => bin_ok hE (tm _ (by simp [Op.operands]) _ hxv) (tm _ (by simp [Op.operands]) _ hyv) hv)
  | unOp op t x =>
    obtain ⟨xv, hxv, e1⟩ := oE_no_eq (show oE (ev s.t x) .no (fun a => pureO s (un op a)) = .ok v h c tl from e)
    exact OpOK.pure rh e1 (fun v hv => un_ok (tm _ (by simp [Op.operands]) _ hxv) hv)
  | convert p q x =>
    obtain ⟨xv, hxv, e1⟩ := oE_no_eq (show oE (ev s.t x) .no (fun v => oE (E.ty.get p) .no (fun si => oE (E.ty.get q) .no (fun di => convert E s si.d di.d v))) = .ok v h c tl from e)
    obtain ⟨si, hsi, e2⟩ := oE_no_eq e1
    obtain ⟨di, hdi, e3⟩ := oE_no_eq e2
    obtain ⟨u, h1, h2⟩ := convert_ok hE rh (tm _ (by simp [Op.operands]) _ hxv) hsi hdi e3 (fun n hn => hp rfl n (refsO_mem (x := x) (by simp [Op.operands]) hxv hn))
    exact OpOK.val ⟨u, _, _, _, h1, h2⟩
  | makeFunc f first cap =>
    cases f with
    | func f =>
      obtain ⟨l, hl, e1⟩ := oE_no_eq (show oE (evs s.t first.toList) .no (fun a => oE (evs s.t cap.toList) .no (fun b => Go.Ab.pure s (.fn f a b))) = .ok v h c tl from e)
      obtain ⟨m, hm, e2⟩ := oE_no_eq e1
      rw [pure_eq] at e2
      cases e2
      refine OpOK.val ⟨_, w, ρ, G, rfl, Aft.pure rh (.fn _ _ _ _ _ ?_ ?_)⟩
      · simpa using (tm.sub (m := first.toList) fun y hy => by simp [Op.operands] at hy ⊢; exact .inl hy).evs hl
      · simpa using (tm.sub (m := cap.toList) fun y hy => by simp [Op.operands] at hy ⊢; exact .inr hy).evs hm
    | _ => cases e
  | makeMap t r =>
    cases r with
    | some x => cases e
    | none =>
      have e1 : newO s (.amap []) .map = .ok v h c tl := e
      rw [newO_eq] at e1
      cases e1
      have fr' := fr s.c (Nat.le_refl _) (Nat.lt_succ_self _)
      refine OpOK.val ⟨.map (some w.heap.size), w.alloc (.map #[] 0), _, _, ?_, Aft.new rh hB fr' (.map #[] 0) 0 ?_ ⟨hB, #[], 0, (Go.MapKept.heap_alloc w _).1, .nil⟩⟩
      · simp only [Instr.makeMap, Option.map_none]
        rfl
      · exact RV.map (ρ := upF ρ s.c (some ⟨w.heap.size, 0, 0⟩)) s.c _ (upF_same _ _ _)
  | makeSlice t l cp =>
    obtain ⟨lv, hlv, e1⟩ := oE_no_eq (show oE (ev s.t l) .no (fun lv => oE (ev s.t cp) .no (fun cv => oE (elemT E t) .no (fun ei => oE (inN lv) .no (fun ln => oE (inN cv) .no (fun cn => mkSl s ei ln cn))))) = .ok v h c tl from e)
    obtain ⟨cv, hcv, e2⟩ := oE_no_eq e1
    obtain ⟨ei, hei, e3⟩ := oE_no_eq e2
    obtain ⟨ln, hln, e4⟩ := oE_no_eq e3
    obtain ⟨cn, hcn, e5⟩ := oE_no_eq e4
    exact OpOK.val (mkSl_ok hE rh hB (tm _ (by simp [Op.operands]) _ hlv) (tm _ (by simp [Op.operands]) _ hcv) hei hln hcn e5 fr)
  | slice t x lo hi mx =>
    obtain ⟨xv, hxv, e1⟩ := oE_no_eq (show oE (ev s.t x) .no (fun v => pureO s (slice E s.t t v lo hi mx)) = .ok v h c tl from e)
    exact OpOK.pure rh e1 (fun v hv => slice_ok hE (tm.sub fun y hy => by simp [Op.operands] at hy ⊢; grind) (tm _ (by simp [Op.operands]) _ hxv) hv)
  | fieldAddr t x f =>
    obtain ⟨xv, hxv, e1⟩ := oE_no_eq (show oE (ev s.t x) .no (fun v => oE (fieldOf E t f) .no (fun p => pE p (fun off fi => pureO s (fAddr off fi.size v)))) = .ok v h c tl from e)
    obtain ⟨⟨off, fi⟩, hf, e2⟩ := oE_no_eq e1
    exact OpOK.pure rh e2 (fun v hv => fAddr_ok hE (tm _ (by simp [Op.operands]) _ hxv) hf hv)
  | field t x f =>
    obtain ⟨xv, hxv, e1⟩ := oE_no_eq (show oE (ev s.t x) .no (fun v => oE (fieldOf E t f) .no (fun p => pE p (fun off fi => pureO s (fPart off fi v)))) = .ok v h c tl from e)
    obtain ⟨⟨off, fi⟩, hf, e2⟩ := oE_no_eq e1
    exact OpOK.pure rh e2 (fun v hv => fPart_ok hE (tm _ (by simp [Op.operands]) _ hxv) hf hv)
  | indexAddr t x i =>
    obtain ⟨xv, hxv, e1⟩ := oE_no_eq (show oE (ev s.t x) .no (fun a => oE (ev s.t i) .no (fun b => pureO s (indexAddr E t a b))) = .ok v h c tl from e)
    obtain ⟨iv, hiv, e2⟩ := oE_no_eq e1
    exact OpOK.pure rh e2 (fun v hv => indexAddr_ok hE (tm _ (by simp [Op.operands]) _ hxv) (tm _ (by simp [Op.operands]) _ hiv) hv)
  | index t x i =>
    obtain ⟨xv, hxv, e1⟩ := oE_no_eq (show oE (ev s.t x) .no (fun a => oE (ev s.t i) .no (fun b => oE (inN b) .no (fun n => pureO s (indexV E t n a)))) = .ok v h c tl from e)
    obtain ⟨iv, hiv, e2⟩ := oE_no_eq e1
    obtain ⟨n, hn, e3⟩ := oE_no_eq e2
    obtain ⟨k, rfl⟩ := inN_eq hn
    have hi := tm _ (by simp [Op.operands]) _ hiv
    refine OpOK.pure (m := Instr.index t (a.eval x) (a.eval i)) rh e3 (fun v hv => ?_)
    generalize a.eval i = I at hi ⊢
    cases hi
    exact indexV_ok hE (tm _ (by simp [Op.operands]) _ hxv) hv
  | lookup t x k ok =>
    obtain ⟨xv, hxv, e1⟩ := oE_no_eq (show oE (ev s.t x) .no (fun a => oE (ev s.t k) .no (fun b => oE (E.ty.get t) .no (fun ti => lookup E s a b ok ti.d))) = .ok v h c tl from e)
    obtain ⟨kv, hkv, e2⟩ := oE_no_eq e1
    obtain ⟨ti, hti, e3⟩ := oE_no_eq e2
    obtain ⟨u, h1, h2⟩ := lookup_ok hE rh (tm _ (by simp [Op.operands]) _ hxv) (tm _ (by simp [Op.operands]) _ hkv) hti e3 (fun n hn => hp rfl n (refsO_mem (x := x) (by simp [Op.operands]) hxv hn))
    exact OpOK.val ⟨u, _, _, _, h1, h2⟩
  | range t x =>
    obtain ⟨xv, hxv, e1⟩ := oE_no_eq (show oE (ev s.t x) .no (fun v => oE (E.ty.get t) .no (fun ti => rangeV s ti.d v)) = .ok v h c tl from e)
    obtain ⟨ti, hti, e2⟩ := oE_no_eq e1
    exact OpOK.val (rangeV_ok hE rh hB (tm _ (by simp [Op.operands]) _ hxv) hti e2 fr)
  | next x str =>
    obtain ⟨xv, hxv, e1⟩ := oE_no_eq (show oE (ev s.t x) .no (next s str) = .ok v h c tl from e)
    obtain ⟨u, w', G', h1, h2⟩ := next_ok (T := type) rh (tm _ (by simp [Op.operands]) _ hxv) e1 (fun n hn => hp rfl n (refsO_mem (x := x) (by simp [Op.operands]) hxv hn))
    exact OpOK.val ⟨u, _, _, _, h1, h2⟩
  | makeInterface t x =>
    obtain ⟨xv, hxv, e1⟩ := oE_no_eq (show oE (ev s.t x) .no (fun v => oE (E.ty.get t) .no (fun ti => bE (isConc ti.d) (Go.Ab.pure s (.iface t v)) .no)) = .ok v h c tl from e)
    obtain ⟨ti, hti, e2⟩ := oE_no_eq e1
    obtain ⟨hc, e3⟩ := bE_no_eq e2
    rw [pure_eq] at e3
    cases e3
    obtain ⟨d, _, hr, _, hd⟩ := (hE.ty _ _ hti).und
    refine OpOK.val (m := Instr.makeInterface t (a.eval x)) ⟨.iface t (a.eval x), w, ρ, G, ?_, Aft.pure rh (.iface _ _ _ (tm _ (by simp [Op.operands]) _ hxv))⟩
    simp only [Instr.makeInterface, Sem.run_bind, hd, Result.andThen_ok]
    cases d <;> first
      | rfl
      | (cases hdd : ti.d <;> rw [hdd] at hr hc <;> first | (simp [DR] at hr; done) | (cases hc; done))
  | extract x i =>
    obtain ⟨e1, rfl, rfl, rfl⟩ := pureO_eq (show pureO s (oE (ev s.t x) none (tupAt i)) = .ok v h c tl from e)
    obtain ⟨xv, hxv, e2⟩ := oE_none_eq e1
    obtain ⟨l, hl, e3⟩ := oE_none_eq (show oE (asTup xv) none (fun l => nth l i) = some v from e2)
    obtain rfl := asTup_eq hl
    have hq := tm _ (by simp [Op.operands]) _ hxv
    rw [nth_eq] at e3
    refine OpOK.val (m := Instr.extract (a.eval x) i) ?_
    generalize a.eval x = Q at hq ⊢
    cases hq with
    | tup l xs hxs =>
      obtain ⟨u, hu, hr⟩ := hxs.get i e3
      refine ⟨u, w, ρ, G, ?_, Aft.pure rh hr⟩
      simp only [Instr.extract]
      rw [← Array.getElem?_toList, hu]
      rfl
  | call cl =>
    have hkc : kindC cl.callee ≠ 2 := hk
    obtain ⟨callee, args, argTypes⟩ := cl
    cases callee with
    | builtin b => exact bi_ok hE rh hB (by simpa [Op.operands, Call.operands] using tm) rfl e fr (fun n hn => hp rfl n (by simpa [Op.operands, Call.operands] using hn))
    | value x => exact absurd rfl hkc
    | invoke x n => exact absurd rfl hkc
  | _ => cases e
end
end Go.Ab
