/- RewriteCompares: for any three lists of small numbers the law returns true: the tied card. Conditions: those of the given row. -/
import Derived.Test.YtofkgopegmoidaaGreatDoorQS68
import Derived.Test.YtofkgopegmoidaaGreatDoorQS74
import Derived.Test.YtofkgopegmoidaaGreatDoorTie
import Derived.Test.YtofkgopegmoidaaGreatDoorCards
import Derived.ProofKit
import Derived.OpenShut
import Derived.LaidMore
import Derived.Lay
import Derived.Carry
import Derived.ChangeSlices
import Derived.SevenTiedAt
import Derived.Stop.Joined
namespace Go.Proofs.YtofkgopegmoidaaGreatDoor
open Go Go.ChangeShapes Go.WideShapes Go.ChangeAt Go.RowKit
theorem comparesOwn : ownKnob Tryz.prog.godebug = none := by kernel_rfl
set_option maxRecDepth 100000 in
theorem comparesLaid : laidOutB Tryz.prog = true := by kernel_rfl
set_option maxRecDepth 100000 in
theorem comparesCells : Tryz.prog.cellsOf 5 = 1 := by kernel_rfl
set_option maxRecDepth 100000 in
theorem comparesU8 {H : Type} {enc : TypeId × Value → H} {W : World} {v : Value} {d : DataW H} {p : List MemPlace} (ho : Value.okWide Tryz.prog W .any 0 22 v) (h : DataW.Trod enc Tryz.prog W 0 (fun _ => true) true 22 v d p) : ∃ a l c, v = .slice a l c ∧ T1.U8r W (.slice a l c) := by
  obtain ⟨a0, len, cap, rfl⟩ := okWide_slice Tryz.underlying22 ho
  refine ⟨a0, len, cap, rfl, ?_⟩
  obtain ⟨fuel, hf⟩ := h
  rcases open_ints Tryz.underlying22 Tryz.underlying5 comparesCells hf with ⟨hcs, _⟩ | ⟨a, len', cap', zs, hcs, _, hl, hm, hz, _, hcell, hwz⟩
  · simp [Value.cells] at hcs
    obtain ⟨rfl, rfl, rfl⟩ := hcs
    exact .inl ⟨_, _, rfl⟩
  · simp [Value.cells] at hcs
    obtain ⟨rfl, rfl, rfl⟩ := hcs
    simp only [if_true] at hz
    cases len with
    | zero => exact .inl ⟨_, _, rfl⟩
    | succ l =>
      have c0 := hcell 0 (by omega)
      obtain ⟨b, off, spot⟩ := a
      have hspot : spot = none := by simpa [Addr.add] using World.cell?_spot c0
      subst hspot
      rw [add_plain] at c0
      refine .inr ⟨b, off, l + 1, cap, rfl, hl, ?_, fun i hi => ?_⟩
      · cases hg : W.heap[b]? with
        | none => simp [World.cell?, hg] at c0
        | some o => exact (Array.getElem?_eq_some_iff.1 hg).1
      · have hi' : i < zs.length := by omega
        have hc := hcell i hi'
        rw [add_plain] at hc
        have hw := hwz (zs.getD i 0) (by rw [List.getD, List.getElem?_eq_getElem hi']; exact List.getElem_mem _)
        have h255 : 0 ≤ zs.getD i 0 ∧ zs.getD i 0 ≤ 255 := by
          have hw2 : (Lit.int .u8 (zs.getD i 0)).wf = true := hw
          simp only [Lit.wf, Bool.and_eq_true, decide_eq_true_eq] at hw2
          exact ⟨hw2.1, hw2.2⟩
        obtain ⟨x, hx⟩ : ∃ x : Nat, zs.getD i 0 = x := ⟨(zs.getD i 0).toNat, by omega⟩
        exact ⟨x, by omega, by rw [← hx]; exact hc⟩
set_option maxRecDepth 100000 in
theorem comparesLifted (os : Os) (started : os.Started) (H : Type) (enc : TypeId × Value → H) :
    ReturnsInHanded {} Tryz.checked os 3 .any (fun w args => (Rows.rewriteComparesSpec.pre enc Tryz.prog Tryz.f3 [] false w args ∧ laidMetH Tryz.prog Rows.rewriteComparesRow.laid w) ∧ sizedMet enc Tryz.prog Tryz.f3 (OpenSpec.ofChange Rows.rewriteComparesSpec) false w args)
      (Rows.rewriteComparesSpec.post enc Tryz.prog Tryz.f3 false true false false) := by
  refine returnsInHanded_of_change_and (C := Tryz.checked) (X := fun w _ => laidMetH Tryz.prog Rows.rewriteComparesRow.laid w) (fun _ _ _ hh h => h.of_heap hh) comparesOwn started (by kernel_rfl) Tryz.func3
    (ChangeSpec.witness_shaped (enc := enc) (C := Tryz.checked) (os := os) (X := fun w _ => laidMetH Tryz.prog Rows.rewriteComparesRow.laid w) false (World.laidAll Tryz.prog os Rows.rewriteComparesRow.laid) #[.slice none 0 0, .slice none 0 0, .slice none 0 0] 8 (World.laidAll_os _ _ _)
      (World.shaped_of_ZipB (by kernel_rfl) (by kernel_rfl)) (by kernel_rfl) (by kernel_rfl) (by kernel_rfl)
      (by rw [MakeChecks.laidMetH_plain _ _ _ (by kernel_rfl)]; exact laidMet_laidAll _ (by kernel_rfl) (by kernel_rfl))) ?_
  intro W base args ds gs before hval0 hW _ _ _ _
  have hval : ∀ (j : Nat) t v, Tryz.f3.params[j]? = some t → args[j]? = some v → Value.okWide Tryz.prog W .any base t v := hval0
  have hW' := hW
  obtain ⟨p, q, hA0, hV, rfl, _, _⟩ := hW
  have hA : DataW.TrodAll enc Tryz.prog W 0 (fun _ => true) true Tryz.f3.params.toList args.toList ds p := hA0
  rw [Tryz.params3] at hA hval
  obtain ⟨v0, v1, v2, d0, d1, d2, p0, p1, p2, rfl, rfl, rfl, h0, h1, h2⟩ := trodAll_three hA
  obtain ⟨rfl, rfl⟩ := trodVars_none hV
  have k0 := hval 0 22 v0 rfl rfl
  have k1 := hval 1 22 v1 rfl rfl
  have k2 := hval 2 22 v2 rfl rfl
  have l0 : ∀ x ∈ p0, x.block < W.heap.size := fun x hx => by simpa using hW'.lt x (by simp [hx])
  have l1 : ∀ x ∈ p1, x.block < W.heap.size := fun x hx => by simpa using hW'.lt x (by simp [hx])
  have l2 : ∀ x ∈ p2, x.block < W.heap.size := fun x hx => by simpa using hW'.lt x (by simp [hx])
  obtain ⟨a0, n0, c0, rfl, u0⟩ := comparesU8 k0 h0
  obtain ⟨a1, n1, c1, rfl, u1⟩ := comparesU8 k1 h1
  obtain ⟨a2, n2, c2, rfl, u2⟩ := comparesU8 k2 h2
  simp only [List.append_nil] at hW'
  refine (T1.law3 T1.known46 a0 a1 a2 n0 n1 n2 c0 c1 c2 W u0 u1 u2).mono fun e W' ⟨he, hb⟩ => ?_
  subst he
  have st : ∀ {v : Value} {d : DataW H} {p : List MemPlace}, DataW.Trod enc Tryz.prog W 0 (fun _ => true) true 22 v d p → (∀ x ∈ p, x.block < W.heap.size) → DataW.Trod enc Tryz.prog W' 0 (fun b => decide (b < W.heap.size)) true 22 v d p :=
    fun h hl => Below.trod comparesLaid (by kernel_rfl) (of_decide_eq_true (by kernel_rfl)) h hb hl
  exact ⟨_, rfl, _, _, _, [], p0 ++ (p1 ++ p2), [], hW', trodAll_mk1 (shut_bool Tryz.underlying4 _), trodAll_mk3 (st h0 l0) (st h1 l1) (st h2 l2), rfl, hb.frame _, fun h => by cases h⟩
theorem comparesHolds : Rows.RewriteComparesSaid :=
  OpenClaim.holds_of_wide 3 Tryz.f3 rfl rfl rfl rfl rfl rfl rfl ⟨rfl, rfl, rfl, rfl, rfl⟩ rfl rfl rfl rfl rfl (by kernel_rfl) Tryz.func3 (by kernel_rfl)
    (of_decide_eq_true (by kernel_rfl)) (by unfold Func.isWrapper; first | (rw [if_pos (by decide +kernel)]; kernel_rfl) | (rw [if_neg (by decide +kernel)]; exact ⟨rfl, rfl⟩))
    (fun os started H enc _ => comparesLifted os started H enc)
theorem rewriteCompares_holds : Rows.RewriteComparesCardSaid :=
  Claim7.holds_tied_plain_at .later [] [.data, .pinned] true (true, "365ca2cd90760fd0bc75d356644d295e8b3ec14f155de916fae3b8b43cb7d2d5") false comparesHolds (fun _ h => by cases h) (by kernel_rfl) (fun _ h => by cases h) rewriteCompares_row_tie rfl ⟨rfl, rfl⟩ (by kernel_rfl) rfl
    (fun f fn hf hfn => by
      obtain rfl : f = 3 := Option.some.inj ((show Tryz.prog.funcNamed "viator/viatorlaw46.RewriteCompares" = some 3 by kernel_rfl).symm.trans hf) |>.symm
      obtain rfl : fn = Tryz.f3 := (Option.some.inj (Tryz.func3.symm.trans hfn)).symm
      exact ⟨by kernel_rfl, fun j t ht => by
        rw [Tryz.params3] at ht
        have hm : t ∈ [22, 22, 22] := by simpa using Array.mem_of_getElem? ht
        have hall : ([22, 22, 22].all fun u => !Tryz.prog.wantsStandIn u) = true := by kernel_rfl
        exact (show Tryz.prog.wantsStandIn t = false by simpa using List.all_eq_true.1 hall t hm)⟩)
    (by kernel_rfl)
#print axioms rewriteCompares_holds
end Go.Proofs.YtofkgopegmoidaaGreatDoor
