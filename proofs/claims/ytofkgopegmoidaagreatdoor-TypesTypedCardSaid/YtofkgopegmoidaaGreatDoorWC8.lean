/- TypesTyped: for any small numbers, any type and any two ids the law returns true: the tied card. Conditions: those of the given row. -/
import Derived.Test.YtofkgopegmoidaaGreatDoorWV9
import Derived.Test.YtofkgopegmoidaaGreatDoorTie
import Derived.Test.YtofkgopegmoidaaGreatDoorCards
import Derived.ProofKit
import Derived.OpenShut
import Derived.LaidMore
import Derived.Lay
import Derived.Carry
import Derived.ChangeSlices
import Derived.SevenTiedAt
import Derived.Stop.Joined
namespace Go.Proofs.YtofkgopegmoidaaGreatDoor
open Go Go.ChangeShapes Go.WideShapes Go.ChangeAt Go.RowKit
theorem typedOwn : ownKnob Tryz.prog.godebug = none := by kernel_rfl
set_option maxRecDepth 100000 in
theorem typedLaid : laidOutB Tryz.prog = true := by kernel_rfl
set_option maxRecDepth 100000 in
theorem typedCells : Tryz.prog.cellsOf 5 = 1 := by kernel_rfl
set_option maxRecDepth 100000 in
theorem typedCells44 : Tryz.prog.cellsOf 44 = 2 := by kernel_rfl
theorem u8_of {n : Int} (hw : (Lit.int .u8 n).wf = true) : ∃ x : Nat, n = x ∧ x ≤ 255 := by
  simp only [Lit.wf, Bool.and_eq_true, decide_eq_true_eq] at hw
  have h1 : 0 ≤ n := hw.1
  have h2 : n ≤ 255 := hw.2
  exact ⟨n.toNat, by omega, by omega⟩
set_option maxRecDepth 100000 in
theorem typedU8 {H : Type} {enc : TypeId × Value → H} {W : World} {v : Value} {d : DataW H} {p : List MemPlace} (ho : Value.okWide Tryz.prog W .any 0 22 v) (h : DataW.Trod enc Tryz.prog W 0 (fun _ => true) true 22 v d p) : ∃ a l c, v = .slice a l c ∧ T1.U8r W (.slice a l c) ∧ l ≤ c := by
  obtain ⟨a0, len, cap, rfl⟩ := okWide_slice Tryz.underlying22 ho
  refine ⟨a0, len, cap, rfl, ?_⟩
  obtain ⟨fuel, hf⟩ := h
  rcases open_ints Tryz.underlying22 Tryz.underlying5 typedCells hf with ⟨hcs, _⟩ | ⟨a, len', cap', zs, hcs, _, hl, hm, hz, _, hcell, hwz⟩
  · simp [Value.cells] at hcs
    obtain ⟨rfl, rfl, rfl⟩ := hcs
    exact ⟨.inl ⟨_, _, rfl⟩, Nat.le_refl _⟩
  · simp [Value.cells] at hcs
    obtain ⟨rfl, rfl, rfl⟩ := hcs
    simp only [if_true] at hz
    refine ⟨?_, hl⟩
    cases len with
    | zero => exact .inl ⟨_, _, rfl⟩
    | succ l =>
      have c0 := hcell 0 (by omega)
      obtain ⟨b, off, spot⟩ := a
      have hspot : spot = none := by simpa [Addr.add] using World.cell?_spot c0
      subst hspot
      rw [add_plain] at c0
      refine .inr ⟨b, off, l + 1, cap, rfl, hl, ?_, fun i hi => ?_⟩
      · cases hg : W.heap[b]? with
        | none => simp [World.cell?, hg] at c0
        | some o => exact (Array.getElem?_eq_some_iff.1 hg).1
      · have hi' : i < zs.length := by omega
        have hc := hcell i hi'
        rw [add_plain] at hc
        obtain ⟨x, hx, hx2⟩ := u8_of (hwz (zs.getD i 0) (by rw [List.getD, List.getElem?_eq_getElem hi']; exact List.getElem_mem _))
        exact ⟨x, hx2, by rw [← hx]; exact hc⟩
set_option maxRecDepth 100000 in
theorem typedPair {H : Type} {enc : TypeId × Value → H} {W : World} {v : Value} {d : DataW H} {p : List MemPlace} (ho : Value.okWide Tryz.prog W .any 0 44 v) (h : DataW.Trod enc Tryz.prog W 0 (fun _ => true) true 44 v d p) : ∃ x y : Nat, v = .agg #[.int .u8 (x : Int), .int .u8 (y : Int)] ∧ x ≤ 255 ∧ y ≤ 255 := by
  obtain ⟨cs, rfl, hsz, _⟩ : ∃ cs, v = .agg cs ∧ cs.size = Tryz.prog.cellsOf 44 ∧ Row.okWide Tryz.prog W .any 0 44 cs := by
    have := ho
    simpa [Value.okWide, Tryz.underlying44] using this
  rw [typedCells44] at hsz
  obtain ⟨l⟩ := cs
  obtain ⟨c0, c1, rfl⟩ : ∃ a b, l = [a, b] := by
    match l, hsz with
    | [a, b], _ => exact ⟨a, b, rfl⟩
  obtain ⟨fuel, hf⟩ := h
  obtain ⟨xs, m, _, _, _, hlen, hel⟩ := DataW.trod_array Tryz.underlying44 hf
  rw [typedCells] at hel
  match xs, hlen with
  | [y0, y1], _ =>
    have h0 := hel 0 (by omega)
    have h1 := hel 1 (by omega)
    simp [Value.cells] at h0 h1
    obtain ⟨x0, e0, _, w0⟩ := DataW.trod_int Tryz.underlying5 h0
    obtain ⟨x1, e1, _, w1⟩ := DataW.trod_int Tryz.underlying5 h1
    simp at e0 e1
    subst e0 e1
    obtain ⟨x, rfl, hx⟩ := u8_of w0
    obtain ⟨y, rfl, hy⟩ := u8_of w1
    exact ⟨x, y, rfl, hx, hy⟩
set_option maxRecDepth 100000 in
theorem typedLifted (os : Os) (started : os.Started) (H : Type) (enc : TypeId × Value → H) :
    ReturnsInHanded {} Tryz.checked os 6 .any (fun w args => (Rows.typesTypedSpec.pre enc Tryz.prog Tryz.f6 [] false w args ∧ laidMetH Tryz.prog Rows.typesTypedRow.laid w) ∧ sizedMet enc Tryz.prog Tryz.f6 (OpenSpec.ofChange Rows.typesTypedSpec) false w args)
      (Rows.typesTypedSpec.post enc Tryz.prog Tryz.f6 false true false false) := by
  refine returnsInHanded_of_change_and (C := Tryz.checked) (X := fun w _ => laidMetH Tryz.prog Rows.typesTypedRow.laid w) (fun _ _ _ hh h => h.of_heap hh) typedOwn started (by kernel_rfl) Tryz.func6
    (ChangeSpec.witness_shaped (enc := enc) (C := Tryz.checked) (os := os) (X := fun w _ => laidMetH Tryz.prog Rows.typesTypedRow.laid w) false (World.laidAll Tryz.prog os Rows.typesTypedRow.laid) #[.slice none 0 0, .int .u8 0, .agg #[.int .u8 0, .int .u8 0]] 8 (World.laidAll_os _ _ _)
      (World.shaped_of_ZipB (by kernel_rfl) (by kernel_rfl)) (by kernel_rfl) (by kernel_rfl) (by kernel_rfl)
      (by rw [MakeChecks.laidMetH_plain _ _ _ (by kernel_rfl)]; exact laidMet_laidAll _ (by kernel_rfl) (by kernel_rfl))) ?_
  intro W base args ds gs before hval0 hW _ _ _ _
  have hval : ∀ (j : Nat) t v, Tryz.f6.params[j]? = some t → args[j]? = some v → Value.okWide Tryz.prog W .any base t v := hval0
  have hW' := hW
  obtain ⟨p, q, hA0, hV, rfl, _, _⟩ := hW
  have hA : DataW.TrodAll enc Tryz.prog W 0 (fun _ => true) true Tryz.f6.params.toList args.toList ds p := hA0
  rw [Tryz.params6] at hA hval
  obtain ⟨v0, v1, v2, d0, d1, d2, p0, p1, p2, rfl, rfl, rfl, h0, h1, h2⟩ := trodAll_three hA
  obtain ⟨rfl, rfl⟩ := trodVars_none hV
  have k0 := hval 0 22 v0 rfl rfl
  have k2 := hval 2 44 v2 rfl rfl
  have l0 : ∀ x ∈ p0, x.block < W.heap.size := fun x hx => by simpa using hW'.lt x (by simp [hx])
  have l1 : ∀ x ∈ p1, x.block < W.heap.size := fun x hx => by simpa using hW'.lt x (by simp [hx])
  have l2 : ∀ x ∈ p2, x.block < W.heap.size := fun x hx => by simpa using hW'.lt x (by simp [hx])
  have h1k := h1
  obtain ⟨t, rfl, rfl, rfl, wt⟩ := open_int Tryz.underlying5 (hval 1 5 v1 rfl rfl) h1
  obtain ⟨tn, rfl, ht⟩ := u8_of wt
  obtain ⟨a0, n0, c0, rfl, u0, hlc⟩ := typedU8 k0 h0
  obtain ⟨x, y, rfl, hx, hy⟩ := typedPair k2 h2
  simp only [List.append_nil] at hW'
  refine (T1.law6 a0 n0 c0 tn x y W u0 hlc ht hx hy).mono fun e W' ⟨he, hb⟩ => ?_
  subst he
  exact ⟨_, rfl, _, _, _, [], p0 ++ ([] ++ p2), [], hW', trodAll_mk1 (shut_bool Tryz.underlying4 _), trodAll_mk3 (Below.trod typedLaid (by kernel_rfl) (of_decide_eq_true (by kernel_rfl)) h0 hb l0) (shut_int Tryz.underlying5 wt) (Below.trod typedLaid (by kernel_rfl) (of_decide_eq_true (by kernel_rfl)) h2 hb l2), rfl, hb.frame _, fun h => by cases h⟩
theorem typedHolds : Rows.TypesTypedSaid :=
  OpenClaim.holds_of_wide 6 Tryz.f6 rfl rfl rfl rfl rfl rfl rfl ⟨rfl, rfl, rfl, rfl, rfl⟩ rfl rfl rfl rfl rfl (by kernel_rfl) Tryz.func6 (by kernel_rfl)
    (of_decide_eq_true (by kernel_rfl)) (by unfold Func.isWrapper; first | (rw [if_pos (by decide +kernel)]; kernel_rfl) | (rw [if_neg (by decide +kernel)]; exact ⟨rfl, rfl⟩))
    (fun os started H enc _ => typedLifted os started H enc)
theorem typesTyped_holds : Rows.TypesTypedCardSaid :=
  Claim7.holds_tied_plain_at .later [] [.data, .pinned] true (true, "365ca2cd90760fd0bc75d356644d295e8b3ec14f155de916fae3b8b43cb7d2d5") false typedHolds (fun _ h => by cases h) (by kernel_rfl) (fun _ h => by cases h) typesTyped_row_tie rfl ⟨rfl, rfl⟩ (by kernel_rfl) rfl
    (fun f fn hf hfn => by
      obtain rfl : f = 6 := Option.some.inj ((show Tryz.prog.funcNamed "viator/viatorlaw44.TypesTyped" = some 6 by kernel_rfl).symm.trans hf) |>.symm
      obtain rfl : fn = Tryz.f6 := (Option.some.inj (Tryz.func6.symm.trans hfn)).symm
      exact ⟨by kernel_rfl, fun j t ht => by
        rw [Tryz.params6] at ht
        have hm : t ∈ [22, 5, 44] := by simpa using Array.mem_of_getElem? ht
        have hall : ([22, 5, 44].all fun u => !Tryz.prog.wantsStandIn u) = true := by kernel_rfl
        exact (show Tryz.prog.wantsStandIn t = false by simpa using List.all_eq_true.1 hall t hm)⟩)
    (by kernel_rfl)
#print axioms typesTyped_holds
end Go.Proofs.YtofkgopegmoidaaGreatDoor
