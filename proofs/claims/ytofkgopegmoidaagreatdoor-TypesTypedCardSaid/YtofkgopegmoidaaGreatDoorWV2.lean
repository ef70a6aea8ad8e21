/- A part of an evaluator of the program's operations over values that are known whole or in part, and of the proof that what it answers holds of the program's run. No condition. -/
import Derived.Test.YtofkgopegmoidaaGreatDoorWS59
import Derived.WalkSpells
import Derived.Test.YtofkgopegmoidaaGreatDoorWV3k
import Derived.Laws.EntriesVeiled
namespace Go.Ab
def Ex.args : Ex → List Ex
  | .mk _ _ _ _ _ _ ys => ys
mutual
/-- what CheckExpr's closure finds: the error of the nodes, the level, how many have been visited -/
def chkE (ne : Ex → Int) : Ex → Nat → Nat → Int × Nat
  | .mk op nm b1 m1 b2 m2 ys, lv, v => if 256 ≤ v then (3, v) else if 32 < lv then (33, v) else if ne (.mk op nm b1 m1 b2 m2 ys) ≠ 0 then (ne (.mk op nm b1 m1 b2 m2 ys), v + 1) else chkL ne ys (lv + 1) (v + 1)
def chkL (ne : Ex → Int) : List Ex → Nat → Nat → Int × Nat
  | [], _, v => (0, v)
  | y :: ys, lv, v => if (chkE ne y lv v).1 ≠ 0 then chkE ne y lv v else chkL ne ys lv (chkE ne y lv v).2
end
end Go.Ab
namespace T1
open Go Go.Ab Go.Proofs
open Go.RowKit
/-- nothing turns but one block, and what is new -/
structure But (V : Nat) (w w' : World) : Prop where
  bel : Below 0 w w'
  same : ∀ k, k < w.heap.size → k ≠ V → w'.heap[k]? = w.heap[k]?
theorem But.refl (V : Nat) (w : World) : But V w w := ⟨Below.refl _ _, fun _ _ _ => rfl⟩
theorem But.trans {V : Nat} {a b c : World} (h : But V a b) (k : But V b c) : But V a c := ⟨h.bel.trans k.bel, fun i hi hn => (k.same i (Nat.lt_of_lt_of_le hi h.bel.size) hn).trans (h.same i hi hn)⟩
theorem But.of_below {V : Nat} {w w' : World} (h : Below w.heap.size w w') : But V w w' := ⟨h.mono (Nat.zero_le _), fun k hk _ => h.block k hk⟩
theorem But.alloc (V : Nat) (w : World) (o : Obj) : But V w (w.alloc o) := .of_below ((Below.refl _ w).alloc (Nat.le_refl _) o)
theorem But.setCell {V : Nat} (w : World) (o : Nat) (u : Value) : But V w (w.setCell ⟨V, o, none⟩ u) := ⟨(Below.refl _ w).setCell (Nat.zero_le _) u, fun k _ hn => Below.heap_setCell _ _ _ _ hn⟩
/-- the closure's own variables: how many nodes have been visited, and the closure -/
structure Vis (V F v : Nat) (w : World) : Prop where
  ne : V ≠ F
  lv : V < w.heap.size
  lf : F < w.heap.size
  cv : w.cell? ⟨V, 0, none⟩ = some (.int .i64 (v : Int))
  fv : w.frozen? ⟨V, 0, none⟩ = false
  cf : w.cell? ⟨F, 0, none⟩ = some (.func (.func 123) #[] #[.pointer (some ⟨V, 0, none⟩), .pointer (some ⟨F, 0, none⟩)])
theorem Vis.later {V F v : Nat} {w w' : World} (h : Vis V F v w) (hb : But V w w') (hc : w'.heap[V]? = w.heap[V]?) : Vis V F v w' :=
  ⟨h.ne, Nat.lt_of_lt_of_le h.lv hb.bel.size, Nat.lt_of_lt_of_le h.lf hb.bel.size, by rw [World.cell?_of_block (w := w) hc]; exact h.cv, by rw [World.frozen?_of_block (w := w) hc]; exact h.fv, by rw [World.cell?_of_block (w := w) (hb.same F h.lf (Ne.symm h.ne))]; exact h.cf⟩
theorem Vis.below {V F v : Nat} {w w' : World} (h : Vis V F v w) (hb : Below w.heap.size w w') : Vis V F v w' := h.later (.of_below hb) (hb.block V h.lv)
theorem Vis.set {V F v : Nat} {w : World} (h : Vis V F v w) (n : Nat) : Vis V F n (w.setCell ⟨V, 0, none⟩ (.int .i64 (n : Int))) :=
  ⟨h.ne, by rw [World.size_setCell]; exact h.lv, by rw [World.size_setCell]; exact h.lf, World.cell?_setCell_same _ _ _ h.cv, by rw [World.frozen?_setCell]; exact h.fv, by rw [World.cell?_of_block (w := w) (Below.heap_setCell _ _ _ _ (Ne.symm h.ne))]; exact h.cf⟩
theorem cells_of' {w : World} {p : Nat} {cs : Array Value} {t : TypeId} (h : w.heap[p]? = some (.cells cs t)) (j : Nat) (u : Value) (hj : cs.toList[j]? = some u) : w.cell? ⟨p, j, none⟩ = some u := by
  simp [World.cell?, h]
  simpa using hj
/-- a node more, and its copy -/
theorem Vis.counted {V F v : Nat} {w : World} (hv : Vis V F v w) (cells : Array Value) (sl : Value) (h6 : cells[6]? = some sl) : But V w ((w.setCell ⟨V, 0, none⟩ (.int .i64 ((v : Int) + 1))).alloc (.cells cells 30)) ∧ Vis V F (v + 1) ((w.setCell ⟨V, 0, none⟩ (.int .i64 ((v : Int) + 1))).alloc (.cells cells 30)) ∧
    ((w.setCell ⟨V, 0, none⟩ (.int .i64 ((v : Int) + 1))).alloc (.cells cells 30)).cell? ⟨w.heap.size, 6, none⟩ = some sl ∧ w.heap.size < ((w.setCell ⟨V, 0, none⟩ (.int .i64 ((v : Int) + 1))).alloc (.cells cells 30)).heap.size := by
  have hs : (w.setCell ⟨V, 0, none⟩ (.int .i64 ((v : Int) + 1))).heap.size = w.heap.size := World.size_setCell _ _ _
  refine ⟨(But.setCell _ _ _).trans (.alloc V _ _), ?_, ?_, by simp⟩
  · have h3 := (hv.set (v + 1)).below ((Below.refl _ _).alloc (Nat.le_refl _) (.cells cells 30))
    rw [show ((v + 1 : Nat) : Int) = (v : Int) + 1 by omega] at h3
    exact h3
  · have h4 : ((w.setCell ⟨V, 0, none⟩ (.int .i64 ((v : Int) + 1))).alloc (.cells cells 30)).heap[w.heap.size]? = some (.cells cells 30) := by rw [← hs]; exact alloc_new _ _
    exact cells_of' h4 6 sl (by simpa using h6)
theorem _root_.Go.Ab.IsSl.len {w : World} {T : Nat → Prop} {ys : List Ex} {a : Option Addr} {l c : Nat} (h : IsSl w T ys (.slice a l c)) : l = ys.length := by
  cases h with
  | nil => rfl
  | row => rfl
theorem _root_.Go.Ab.IsSl.shape {w : World} {T : Nat → Prop} {ys : List Ex} {a : Option Addr} {l c : Nat} (h : IsSl w T ys (.slice a l c)) : (ys = [] ∧ l = 0) ∨ ∃ blk off, a = some ⟨blk, off, none⟩ ∧ l = ys.length ∧ T blk ∧ l ≤ c ∧ IsRow w T blk off ys := by
  cases h with
  | nil => exact .inl ⟨rfl, rfl⟩
  | row h1 h2 h3 => exact .inr ⟨_, _, rfl, rfl, h2, h1, h3⟩
theorem _root_.Go.Ab.IsRow.get {w : World} {T : Nat → Prop} : ∀ {blk off : Nat} {ys : List Ex}, IsRow w T blk off ys → ∀ {k : Nat} (hk : k < ys.length), ∃ cs, IsEx w T ys[k] cs ∧ ∀ (j : Nat) (u : Value), cs[j]? = some u → w.cell? ⟨blk, off + k * 7 + j, none⟩ = some u
  | _, _, _, .nil, k, hk => absurd hk (by simp)
  | blk, off, _, .cons h1 h2 h3, 0, _ => ⟨_, h1, fun j u hu => by simpa using h2 j u hu⟩
  | blk, off, _, .cons h1 h2 h3, k + 1, hk => by
    obtain ⟨cs, k1, k2⟩ := h3.get (k := k) (by simpa using hk)
    exact ⟨cs, k1, fun j u hu => by have := k2 j u hu; rw [show off + 7 + k * 7 + j = off + (k + 1) * 7 + j by omega] at this; exact this⟩
def ChkSpec (ne : Ex → Int) (e : Ex) : Prop := ∀ (w : World) (V F lv v : Nat) (cs : List Value), lv ≤ 1000 → Vis V F v w → IsEx w (fun k => k < w.heap.size ∧ k ≠ V) e cs →
  Calls Tryz.prog 123 #[.agg cs.toArray, .int .i64 (lv : Int), .pointer (some ⟨V, 0, none⟩), .pointer (some ⟨F, 0, none⟩)] w fun e' w' => e' = .returned (.int .i64 (chkE ne e lv v).1) ∧ Vis V F (chkE ne e lv v).2 w' ∧ But V w w'
def NodeSpec (ne : Ex → Int) (e : Ex) : Prop := ∀ (w : World) (T : Nat → Prop) (cs : List Value), (∀ k, T k → k < w.heap.size) → 0 < w.heap.size → IsEx w T e cs → Calls Tryz.prog 124 #[.agg cs.toArray] w fun e' w' => e' = .returned (.int .i64 (ne e)) ∧ Below w.heap.size w w'
set_option maxHeartbeats 4000000 in
set_option maxRecDepth 20000 in
theorem chk_step {ne : Ex → Int} {op : Int} {nm : ByteArray} {b1 : Bool} {m1 : ByteArray} {b2 : Bool} {m2 : ByteArray} {ys : List Ex} (hn : NodeSpec ne (.mk op nm b1 m1 b2 m2 ys)) (hys : ∀ y ∈ ys, ChkSpec ne y) (hbig : ys.length ≤ 1000000) : ChkSpec ne (.mk op nm b1 m1 b2 m2 ys) := by
  intro w V F lv v cs hlv hv hex
  cases hex with
  | mk hsl =>
    rename_i sl
    obtain ⟨s0, s1, s2, rfl⟩ : ∃ a l c, sl = .slice a l c := by cases hsl <;> exact ⟨_, _, _, rfl⟩
    have hcv := hv.cv
    have hfv := hv.fv
    have hcf := hv.cf
    have hVn : V ≠ w.heap.size := by have := hv.lv; omega
    have hFn : F ≠ w.heap.size := by have := hv.lf; omega
    have hVF := hv.ne
    have hVlt := hv.lv
    have hFlt := hv.lf
    go_enter Tryz.func123, Tryz.ntmps123
    go_wp2_with fail
    · go_ret
      rename_i h
      rw [chkE, if_pos (by omega)]
      exact ⟨rfl, hv.below ((Below.refl _ w).alloc (Nat.le_refl _) _), .alloc V w _⟩
    · go_ret
      rename_i h h'
      rw [chkE, if_neg (by omega), if_pos (by omega)]
      exact ⟨rfl, hv.below ((Below.refl _ w).alloc (Nat.le_refl _) _), .alloc V w _⟩
    · rename_i h h'
      obtain ⟨x1, x2, x3, x4⟩ := hv.counted #[Value.int IntKind.i64 op, Value.string nm, Value.bool b1, Value.string m1, Value.bool b2, Value.string m2, Value.slice s0 s1 s2] (.slice s0 s1 s2) rfl
      refine (hn _ (fun k => k < w.heap.size ∧ k ≠ V) _ ?_ ?_ ?_).mono ?_
      · intro k hk; simp; omega
      · simp
      · exact (IsEx.mk hsl).mono (fun _ h => h) (fun k hk => x1.same k hk.1 hk.2)
      rintro e1 w1 ⟨rfl, hb1⟩
      have hv1 := x2.below hb1
      have hbut1 := x1.trans (.of_below hb1)
      have hc6 := (hb1.cell (p := ⟨w.heap.size, 6, none⟩) x4).trans x3
      have hsz1 := Nat.lt_of_lt_of_le x4 hb1.size
      clear x1 x2 x3 x4 hb1 hcv hfv hcf
      have hcv := hv1.cv
      have hfv := hv1.fv
      have hcf := hv1.cf
      generalize hr : ne (Ex.mk op nm b1 m1 b2 m2 ys) = r
      go_wp2_with fail
      · have hr0 : r ≠ 0 := by simpa using (show (r != 0) = true by assumption)
        go_ret
        rw [chkE, if_neg (by omega), if_neg (by omega), hr, if_pos hr0]
        exact ⟨rfl, hv1, hbut1⟩
      · have hr0 : r = 0 := by simpa using (show (r != 0) = false by assumption)
        subst hr0
        rcases hsl.shape with ⟨rfl, rfl⟩ | ⟨blk, off, rfl, rfl, hblk, hsc, hrow⟩
        · go_loopw [27] (fun i wr => i = .int .i64 0 ∧ wr = w1) (fun _ _ => 0)
          case atStart => exact ⟨rfl, rfl⟩
          case round =>
            obtain ⟨rfl, rfl⟩ := hrel
            go_wp2_with fail
            go_ret
            rw [chkE, if_neg (by omega), if_neg (by omega), hr, if_neg (by simp), chkL]
            exact ⟨rfl, hv1, hbut1⟩
        · go_loopw [27] (fun i wr => ∃ k v', k ≤ ys.length ∧ i = .int .i64 (k : Int) ∧ Vis V F v' wr ∧ But V w wr ∧ chkL ne ys (lv + 1) (v + 1) = chkL ne (ys.drop k) (lv + 1) v') (fun i _ => ys.length - (intOf i).toNat)
          case atStart => exact ⟨0, v + 1, Nat.zero_le _, rfl, hv1, hbut1, rfl⟩
          case round =>
            obtain ⟨k, v', hk, rfl, hvr, hbr, hch⟩ := hrel
            have hcvr := hvr.cv
            have hcfr := hvr.cf
            have hVr := hvr.lv
            have hFr := hvr.lf
            have hVrn : V ≠ wr.heap.size := by omega
            have hFrn : F ≠ wr.heap.size := by omega
            by_cases hkn : k < ys.length
            · obtain ⟨cs', hex', hcell⟩ := hrow.get hkn
              have hy := hys _ (List.getElem_mem hkn)
              have hdrop : ys.drop k = ys[k] :: ys.drop (k + 1) := List.drop_eq_getElem_cons hkn
              generalize ys[k] = y at hex' hy hdrop
              cases hex' with
              | mk hsl' =>
                rename_i op' nm' b1' m1' b2' m2' ys' sl'
                obtain ⟨t0, t1, t2, rfl⟩ : ∃ a l c, sl' = .slice a l c := by cases hsl' <;> exact ⟨_, _, _, rfl⟩
                have hat : ∀ (j : Nat) (u : Value), [Value.int .i64 op', .string nm', .bool b1', .string m1', .bool b2', .string m2', .slice t0 t1 t2][j]? = some u → wr.cell? ⟨blk, off + k * 7 + j, none⟩ = some u := fun j u hu => by
                  rw [World.cell?_of_block (w := w) (hbr.same blk hblk.1 hblk.2)]; exact hcell j u hu
                have c0 := hat 0 _ rfl
                have c1 := hat 1 _ rfl
                have c2 := hat 2 _ rfl
                have c3 := hat 3 _ rfl
                have c4 := hat 4 _ rfl
                have c5 := hat 5 _ rfl
                have c6 := hat 6 _ rfl
                rw [Nat.add_zero] at c0
                clear hat hcell
                go_wp2_with fail
                have hal := (Below.refl _ wr).alloc (Nat.le_refl _) (Obj.cells #[Value.int IntKind.i64 op', Value.string nm', Value.bool b1', Value.string m1', Value.bool b2', Value.string m2', Value.slice t0 t1 t2] 30)
                have hcall := hy _ V F (lv + 1) v' _ (by omega) (hvr.below hal) ((IsEx.mk hsl').mono (fun k hk => ⟨Nat.lt_of_lt_of_le hk.1 (hbr.trans (.of_below hal)).bel.size, hk.2⟩) (fun k hk => (hbr.trans (.of_below hal)).same k hk.1 hk.2))
                rw [show ((lv + 1 : Nat) : Int) = (lv : Int) + 1 by omega] at hcall
                refine hcall.mono ?_
                have hch' := hch
                rw [hdrop, chkL] at hch'
                clear hcall hy
                generalize chkE ne (Ex.mk op' nm' b1' m1' b2' m2' ys') (lv + 1) v' = q at hch' ⊢
                obtain ⟨q1, q2⟩ := q
                rintro e2 w2 ⟨rfl, hv2, hb2⟩
                have hb3 := (hbr.trans (.of_below hal)).trans hb2
                clear hal hb2
                go_wp2_with fail
                · have hq0 : q1 ≠ 0 := by simpa using (show (q1 != 0) = true by assumption)
                  go_ret
                  rw [chkE, if_neg (by omega), if_neg (by omega), hr, if_neg (by simp), hch', if_pos hq0]
                  exact ⟨rfl, hv2, hb3⟩
                · have hq0 : q1 = 0 := by simpa using (show (q1 != 0) = false by assumption)
                  rw [if_neg (by simpa using hq0)] at hch'
                  refine ⟨⟨_, _, _, _, _, _, _, _, _, _, _, _, _, _, _, _, ?rel, rfl⟩, ?_⟩
                  case rel => exact ⟨k + 1, q2, by omega, by congr 1, hv2, hb3, hch'⟩
                  show ys.length - ((k : Int) + 1).toNat < ys.length - ((k : Int)).toNat
                  omega
            · go_wp2_with fail
              go_ret
              rw [chkE, if_neg (by omega), if_neg (by omega), hr, if_neg (by simp), hch, List.drop_eq_nil_of_le (by omega), chkL]
              exact ⟨rfl, hvr, hbr⟩
#print axioms chk_step
end T1
namespace T1
open Go Go.Ab Go.Proofs
def rhoNd (L : Option Go.Ab.Loc) : Rho := fun n => if n = 12 then L else none
theorem hN_get {op l n : Nat} {o : AB} (h : (hN op l).get n = some o) : n = 12 ∧ 0 < l ∧ o = .cells .ro (kidsN op l) := by
  cases l with
  | zero => exact absurd (show (Tr.lf : Tr AB).get n = some o from h) (by simp)
  | succ l =>
    have h' : ((Tr.lf : Tr AB).set 12 (.cells .ro (kidsN op (l + 1)))).get n = some o := h
    rw [Tr.get_set] at h'
    by_cases hn : n = 12
    · rw [if_pos hn] at h'; cases h'; exact ⟨hn, by omega, rfl⟩
    · rw [if_neg hn] at h'; simp at h'
/-- what the children's cells are known to be -/
theorem kids_get {op : Nat} : ∀ (l j : Nat) (v : AV), (kidsN op l)[j]? = some v → v = .any ∨ (op = 2 ∧ v = .int .i64 (.ofNat 1) ∧ j % 7 = 0 ∧ j / 7 < l)
  | 0, j, v, h => by simp [kidsN] at h
  | l + 1, j, v, h => by
    unfold kidsN at h
    match j, h with
    | 0, h =>
      simp at h
      subst h
      by_cases ho : op = 2
      · rw [if_pos ho]; exact .inr ⟨ho, rfl, rfl, by omega⟩
      · rw [if_neg ho]; exact .inl rfl
    | 1, h => simp at h; exact .inl h.symm
    | 2, h => simp at h; exact .inl h.symm
    | 3, h => simp at h; exact .inl h.symm
    | 4, h => simp at h; exact .inl h.symm
    | 5, h => simp at h; exact .inl h.symm
    | 6, h => simp at h; exact .inl h.symm
    | j + 7, h =>
      rcases kids_get l j v (by simpa using h) with h | ⟨h1, h2, h3, h4⟩
      · exact .inl h
      · exact .inr ⟨h1, h2, by omega, by omega⟩
theorem fn124 : T1.E.fn.get 124 = some Tryz.f124 := by kernel_rfl
theorem body124 : Tryz.f124.body = some (bodyOf Tryz.f124) := by kernel_rfl
open Go.RowKit (Below)
theorem kidsN_len (op : Nat) : ∀ l, (kidsN op l).length = 7 * l
  | 0 => rfl
  | l + 1 => by unfold kidsN; simp [kidsN_len op l]; omega
/-- a run's word holds of the node in memory -/
theorem node_run {op : Nat} {nm m1 m2 : ByteArray} {ys : List Ex} (h : chkN' op (bytesOf nm) (bytesOf m1) (bytesOf m2) ys.length = true) (h2 : op = 2 → ∀ y ∈ ys, ∃ nm b1 m1 b2 m2 zs, y = .mk 1 nm b1 m1 b2 m2 zs) {w : World} {T : Nat → Prop} {cs : List Value} (hT : ∀ k, T k → k < w.heap.size) (h0 : 0 < w.heap.size) (hex : IsEx w T (.mk (op : Int) nm false m1 false m2 ys) cs) :
    Calls Tryz.prog 124 #[.agg cs.toArray] w fun e' w' => e' = .returned (.int .i64 0) ∧ Below w.heap.size w w' := by
  cases hex with
  | mk hsl =>
    obtain ⟨vs, L, k1, k2, k3, k4, k5, k6, k7⟩ := slA_ok hsl hT
    obtain ⟨h', c, tl, hok⟩ := isInt_eq h
    have inn : ∀ n M, rhoNd L n = some M → M.blk < w.heap.size := by
      intro n M hM
      unfold rhoNd at hM
      split at hM
      · exact (k4 M hM).1
      · cases hM
    refine run_gen (E := EN) (I := invP) (B := w.heap.size) (ρ := rhoNd L) (G := fun n => (hN op ys.length).get n) (xs := [_]) ⟨envOK_con _, invP_ok, conLf_ok⟩ bodyOK fn124 body124 hok
      (.cons (.agg _ _ (.cons (.int .i64 (Int.ofNat op)) (.cons (.str nm) (.cons (.bool false) (.cons (.str m1) (.cons (.bool false) (.cons (.str m2) (.cons (k7 _ _ (by unfold rhoNd; rw [if_pos rfl])) .nil)))))))) .nil)
      ⟨fun n o hg => ?_, fun n k a b L' M hn _ _ _ _ ho => ?_, inn⟩ h0 (Nat.le_refl _) (fun n hn => ?_) (fun n hn _ => ?_) (fun _ _ h => h) fun u ρ' G' w' A _ => ?_
    · obtain ⟨rfl, hl, rfl⟩ := hN_get hg
      obtain ⟨M, hM⟩ := Option.isSome_iff_exists.1 (k5 hl)
      refine ⟨M, by unfold rhoNd; rw [if_pos rfl, hM], fun i v hv => ?_, trivial⟩
      have hi : i < vs.length := by
        have := (List.getElem?_eq_some_iff.1 hv).1
        rw [kidsN_len] at this
        omega
      refine ⟨vs[i], (k4 M hM).2 i _ (List.getElem?_eq_getElem hi), ?_⟩
      rcases kids_get _ i v hv with rfl | ⟨ho, rfl, hm, hd⟩
      · exact .any _
      · obtain ⟨cs', hex', hc⟩ := k3 (i / 7) ys[i / 7] (List.getElem?_eq_getElem hd)
        obtain ⟨nm', b1', m1', b2', m2', zs, hy⟩ := h2 ho _ (List.getElem_mem hd)
        rw [hy] at hex'
        have h00 := hc 0 (by omega)
        have hii : 7 * (i / 7) + 0 = i := by omega
        rw [hii, List.getElem?_eq_getElem hi] at h00
        cases hex' with
        | mk _ =>
          simp at h00
          rw [h00]
          exact .int .i64 1
    · obtain ⟨_, _, rfl⟩ := hN_get hn
      cases ho
    · have hn' : 70 ≤ n := hn
      cases hg : (hN op ys.length).get n with
      | none => rfl
      | some o => have := (hN_get hg).1; omega
    · have hn' : 70 ≤ n := hn
      unfold rhoNd
      rw [if_neg (by omega)]
    · have hu := A.rv
      cases hu
      exact ⟨rfl, A.bel⟩
theorem lst1 {x a : Nat} {m : ByteArray} (h : bytesOf m = [x]) (hx : x = a) : bytesOf m = [a] := hx ▸ h
theorem mod_odd {n : Nat} (h : n ≤ 63) (h1 : n % 2 = 1) : n ∈ odds := by
  unfold odds
  exact List.mem_map.2 ⟨n / 2, List.mem_range.2 (by omega), by omega⟩
theorem num_leaf {nm : ByteArray} {b1 : Bool} {m1 : ByteArray} {b2 : Bool} {m2 : ByteArray} (hn : bytesOf nm = []) (h : isNumL b1 (bytesOf m1) b2 (bytesOf m2) = true) : b1 = false ∧ b2 = false ∧ chkN' 1 (bytesOf nm) (bytesOf m1) (bytesOf m2) 0 = true := by
  unfold isNumL at h
  rw [Bool.and_eq_true, Bool.and_eq_true] at h
  obtain ⟨h1, h2, h3⟩ := h
  refine ⟨by simpa using h1, by simpa using h2, ?_⟩
  rw [hn]
  split at h3
  · next e1 e2 => rw [e1, e2]; exact allB'_ok nw 0 (List.mem_range.2 (by omega))
  · next n e1 e2 =>
    rw [Bool.and_eq_true] at h3
    have a1 := ble_true h3.1
    have a2 := ble_true h3.2
    rw [e1, e2]
    have := allB'_ok nw n (List.mem_range.2 (by omega))
    rw [if_neg (by omega)] at this
    exact this
  · next n d e1 e2 =>
    rw [Bool.and_eq_true, Bool.and_eq_true] at h3
    obtain rfl := beq_true h3.1
    have a1 := ble_true h3.2.1
    have a2 : n % 2 = 1 := beq_true h3.2.2
    rw [e1, e2]
    exact allB'_ok nh n (mod_odd a1 a2)
  · cases h3
theorem obj_leaf {nm : ByteArray} {b1 : Bool} {m1 : ByteArray} {b2 : Bool} {m2 : ByteArray} (hn : bytesOf nm = []) (h : isObjL b1 (bytesOf m1) b2 (bytesOf m2) = true) : b1 = false ∧ b2 = false ∧ chkN' 3 (bytesOf nm) (bytesOf m1) (bytesOf m2) 0 = true := by
  unfold isObjL at h
  rw [Bool.and_eq_true, Bool.and_eq_true] at h
  obtain ⟨h1, h2, h3⟩ := h
  refine ⟨by simpa using h1, by simpa using h2, ?_⟩
  rw [hn]
  split at h3
  · next n e1 e2 =>
    rw [Bool.and_eq_true] at h3
    have a1 := ble_true h3.1
    have a2 := ble_true h3.2
    rw [e1, e2]
    have := allB'_ok no n (List.mem_map.2 ⟨n - 1, List.mem_range.2 (by omega), by omega⟩)
    rw [if_neg (by omega)] at this
    exact this
  · next x y e1 e2 =>
    rw [Bool.and_eq_true] at h3
    obtain rfl := beq_true h3.1
    obtain rfl := beq_true h3.2
    rw [e1, e2]
    have := allB'_ok no 256 (List.mem_map.2 ⟨255, List.mem_range.2 (by omega), rfl⟩)
    rw [if_pos rfl] at this
    exact this
  · cases h3
theorem memS_has {c : List Nat} : ∀ {l : List (List Nat)}, memS c l = true → c ∈ l
  | [], h => by cases h
  | x :: l, h => by
    have h' : bE (seq x c) true (memS c l) = true := h
    cases hs : seq x c with
    | true => rw [(seq_iff _ _).1 hs]; exact List.mem_cons_self
    | false => rw [hs, bE_false] at h'; exact List.mem_cons_of_mem _ (memS_has h')
theorem varN_sub {vs : Nat} : ∀ c ∈ varN vs, c ∈ [[97], [98]] := by
  intro c hc
  unfold varN at hc
  split at hc
  · simp at hc
  · simp at hc; simp [hc]
  · exact hc
theorem r1_op : ∀ p ∈ r1L, p.1 ∈ unOps := by decide
theorem r2_op : ∀ p ∈ r2L, p.1 ∈ binOps := by decide
theorem r2_pt : ∀ p ∈ r2L, p.1 = 2 → p.2.1 = 2 ∧ p.2.2.1 = 2 := by decide
theorem r1_no2 : ∀ p ∈ r1L, p.2.2 ≠ 2 := by decide
theorem r2_no2 : ∀ p ∈ r2L, p.2.2.2 ≠ 2 := by decide
/-- what has the type number is a literal -/
theorem TE.num {vs d : Nat} {e : Ex} (h : TE vs 2 d e) : ∃ nm b1 m1 b2 m2 zs, e = .mk 1 nm b1 m1 b2 m2 zs := by
  cases h with
  | leaf h =>
    rename_i op nm b1 m1 b2 m2
    unfold isLeaf at h
    split at h
    · exact ⟨nm, b1, m1, b2, m2, [], rfl⟩
    all_goals try (rw [Bool.and_eq_true, Bool.and_eq_true] at h; exact absurd (beq_true h.2.2) (by omega))
    cases h
  | un _ h _ => exact absurd rfl (r1_no2 _ (r1_has h))
  | bin _ h _ _ => exact absurd rfl (r2_no2 _ (r2_has h))
set_option maxRecDepth 100000 in
theorem node_te {vs t d : Nat} {e : Ex} (h : TE vs t d e) : NodeSpec (fun _ => 0) e := by
  intro w T cs hT h0 hex
  cases h with
  | leaf h =>
    rename_i op nm b1 m1 b2 m2
    unfold isLeaf at h
    split at h
    · rw [Bool.and_eq_true, Bool.and_eq_true] at h
      obtain ⟨rfl, rfl, hc⟩ := num_leaf ((seq_iff _ _).1 h.1) h.2.1
      exact node_run (op := 1) (ys := []) hc (fun h => absurd h (by omega)) hT h0 hex
    · rw [Bool.and_eq_true, Bool.and_eq_true] at h
      obtain ⟨rfl, rfl, hc⟩ := obj_leaf ((seq_iff _ _).1 h.1) h.2.1
      exact node_run (op := 3) (ys := []) hc (fun h => absurd h (by omega)) hT h0 hex
    · rw [Bool.and_eq_true, Bool.and_eq_true] at h
      obtain ⟨rfl, e1, rfl, e2⟩ := isZ4_eq h.2.1
      refine node_run (op := 4) (ys := []) ?_ (fun h => absurd h (by omega)) hT h0 hex
      rw [e1, e2]
      exact allB'_ok nv _ (varN_sub _ (memS_has h.1))
    · rw [Bool.and_eq_true, Bool.and_eq_true] at h
      obtain ⟨rfl, e1, rfl, e2⟩ := isZ4_eq h.2.1
      refine node_run (op := 5) (ys := []) ?_ (fun h => absurd h (by omega)) hT h0 hex
      rw [e1, e2]
      exact allB'_ok nz _ (memS_has h.1)
    · cases h
  | un hb hr hy =>
    rename_i op a nm b1 m1 b2 m2 y
    obtain ⟨e0, rfl, e1, rfl, e2⟩ := hb
    have hop := r1_op _ (r1_has hr)
    refine node_run (op := op) (ys := [y]) ?_ (fun h => ?_) hT h0 hex
    · rw [e0, e1, e2]; exact allB'_ok nu _ hop
    · subst h; exact absurd (show (2 : Nat) ∈ unOps from hop) (by decide)
  | bin hb hr hy hz =>
    rename_i op a b nm b1 m1 b2 m2 y z
    obtain ⟨e0, rfl, e1, rfl, e2⟩ := hb
    have hop := r2_op _ (r2_has hr)
    refine node_run (op := op) (ys := [y, z]) ?_ (fun h => ?_) hT h0 hex
    · rw [e0, e1, e2]; exact allB'_ok nb _ hop
    · subst h
      obtain ⟨ha, hb⟩ := r2_pt _ (r2_has hr) rfl
      have ha' : a = 2 := ha
      have hb' : b = 2 := hb
      subst ha'; subst hb'
      intro q hq
      simp at hq
      rcases hq with rfl | rfl
      · exact TE.num hy
      · exact TE.num hz
  | ter hb _ hx hy hz =>
    obtain ⟨e0, rfl, e1, rfl, e2⟩ := hb
    refine node_run (op := 15) (ys := [_, _, _]) ?_ (fun h => absurd h (by omega)) hT h0 hex
    rw [e0, e1, e2]; exact nt
end T1
namespace T1
open Go Go.Ab Go.Proofs
open Go.RowKit
theorem chk_te {vs t d : Nat} {e : Ex} (h : TE vs t d e) : ChkSpec (fun _ => 0) e := by
  induction h with
  | leaf h => exact chk_step (node_te (.leaf h (d := 0))) (fun y hy => by simp at hy) (by simp)
  | un h1 h2 h3 ih => exact chk_step (node_te (.un h1 h2 h3)) (fun y hy => by simp at hy; subst hy; exact ih) (by simp)
  | bin h1 h2 h3 h4 ih1 ih2 => exact chk_step (node_te (.bin h1 h2 h3 h4)) (fun y hy => by simp at hy; rcases hy with rfl | rfl; exact ih1; exact ih2) (by simp)
  | ter h1 h2 h3 h4 h5 ih1 ih2 ih3 => exact chk_step (node_te (.ter h1 h2 h3 h4 h5)) (fun y hy => by simp at hy; rcases hy with rfl | rfl | rfl; exact ih1; exact ih2; exact ih3) (by simp)
theorem leaf0 {vs t : Nat} {e : Ex} (h : TE vs t 0 e) : e.args = [] := by
  cases h with
  | leaf => rfl
theorem chk_leaf {vs t : Nat} {e : Ex} (h : TE vs t 0 e) {lv v : Nat} (hl : lv ≤ 32) (hv : v < 256) : chkE (fun _ => 0) e lv v = (0, v + 1) := by
  cases h with
  | leaf => rw [chkE, if_neg (by omega), if_neg (by omega), if_neg (by simp), chkL]
theorem chk_val {vs t d : Nat} {e : Ex} (h : TE vs t d e) : ∀ lv v, lv + d ≤ 32 → v + (2 ^ (d + 2) - 1) ≤ 256 → ∃ v', chkE (fun _ => 0) e lv v = (0, v') ∧ v' ≤ v + (2 ^ (d + 2) - 1) := by
  induction h with
  | @leaf t d op nm b1 m1 b2 m2 _ =>
    intro lv v h1 h2
    have := Nat.one_le_two_pow (n := d)
    have e1 : 2 ^ (d + 2) = 4 * 2 ^ d := by rw [Nat.pow_succ, Nat.pow_succ]; omega
    refine ⟨v + 1, ?_, by omega⟩
    rw [chkE, if_neg (by omega), if_neg (by omega), if_neg (by simp), chkL]
  | @un t d op a nm b1 m1 b2 m2 y _ _ _ ih =>
    intro lv v h1 h2
    have := Nat.one_le_two_pow (n := d)
    have e1 : 2 ^ (d + 2) = 4 * 2 ^ d := by rw [Nat.pow_succ, Nat.pow_succ]; omega
    have e2 : 2 ^ (d + 1 + 2) = 8 * 2 ^ d := by rw [Nat.pow_succ, Nat.pow_succ, Nat.pow_succ]; omega
    obtain ⟨v1, a1, a2⟩ := ih (lv + 1) (v + 1) (by omega) (by omega)
    refine ⟨v1, ?_, by omega⟩
    rw [chkE, if_neg (by omega), if_neg (by omega), if_neg (by simp), chkL, a1, if_neg (by simp), chkL]
  | @bin t d op a b nm b1 m1 b2 m2 y z _ _ _ _ ih1 ih2 =>
    intro lv v h1 h2
    have := Nat.one_le_two_pow (n := d)
    have e1 : 2 ^ (d + 2) = 4 * 2 ^ d := by rw [Nat.pow_succ, Nat.pow_succ]; omega
    have e2 : 2 ^ (d + 1 + 2) = 8 * 2 ^ d := by rw [Nat.pow_succ, Nat.pow_succ, Nat.pow_succ]; omega
    obtain ⟨v1, a1, a2⟩ := ih1 (lv + 1) (v + 1) (by omega) (by omega)
    obtain ⟨v2, a3, a4⟩ := ih2 (lv + 1) v1 (by omega) (by omega)
    refine ⟨v2, ?_, by omega⟩
    rw [chkE, if_neg (by omega), if_neg (by omega), if_neg (by simp), chkL, a1, if_neg (by simp), chkL, a3, if_neg (by simp), chkL]
  | @ter d b nm b1 m1 b2 m2 x y z _ _ hx _ hz _ ih2 _ =>
    intro lv v h1 h2
    have := Nat.one_le_two_pow (n := d)
    have e1 : 2 ^ (d + 2) = 4 * 2 ^ d := by rw [Nat.pow_succ, Nat.pow_succ]; omega
    have e2 : 2 ^ (d + 1 + 2) = 8 * 2 ^ d := by rw [Nat.pow_succ, Nat.pow_succ, Nat.pow_succ]; omega
    obtain ⟨v2, a3, a4⟩ := ih2 (lv + 1) (v + 1 + 1) (by omega) (by omega)
    refine ⟨v2 + 1, ?_, by omega⟩
    rw [chkE, if_neg (by omega), if_neg (by omega), if_neg (by simp), chkL, chk_leaf hx (by omega) (by omega), if_neg (by simp), chkL, a3, if_neg (by simp), chkL, chk_leaf hz (by omega) (by omega), if_neg (by simp), chkL]
/-- CheckExpr's three variables -/
theorem vis_new (w : World) (o : Obj) : Vis (w.heap.size + 1) (w.heap.size + 1 + 1) 0 (((w.alloc o).alloc (.cells #[.int .i64 0] 3)).alloc (.cells #[.func (.func 123) #[] #[.pointer (some ⟨w.heap.size + 1, 0, none⟩), .pointer (some ⟨w.heap.size + 1 + 1, 0, none⟩)]] 162)) ∧
    Below w.heap.size w (((w.alloc o).alloc (.cells #[.int .i64 0] 3)).alloc (.cells #[.func (.func 123) #[] #[.pointer (some ⟨w.heap.size + 1, 0, none⟩), .pointer (some ⟨w.heap.size + 1 + 1, 0, none⟩)]] 162)) ∧
    (((w.alloc o).alloc (.cells #[.int .i64 0] 3)).alloc (.cells #[.func (.func 123) #[] #[.pointer (some ⟨w.heap.size + 1, 0, none⟩), .pointer (some ⟨w.heap.size + 1 + 1, 0, none⟩)]] 162)).heap.size = w.heap.size + 3 := by
  have hb : ∀ o1 o2 o3, Below w.heap.size w (((w.alloc o1).alloc o2).alloc o3) := fun o1 o2 o3 => (((Below.refl _ w).alloc (Nat.le_refl _) o1).alloc (by simp) o2).alloc (by simp; omega) o3
  have h1 : ∀ o1 o2 o3, (((w.alloc o1).alloc o2).alloc o3).heap[w.heap.size + 1]? = some o2 := fun o1 o2 o3 => by
    show (((w.heap.push o1).push o2).push o3)[w.heap.size + 1]? = _
    rw [Array.getElem?_push, if_neg (by simp), Array.getElem?_push, if_pos (by simp)]
  have h2 : ∀ o1 o2 o3, (((w.alloc o1).alloc o2).alloc o3).heap[w.heap.size + 1 + 1]? = some o3 := fun o1 o2 o3 => by
    show (((w.heap.push o1).push o2).push o3)[w.heap.size + 1 + 1]? = _
    rw [Array.getElem?_push, if_pos (by simp)]
  refine ⟨⟨by omega, by simp, by simp, cells_of' (h1 _ _ _) 0 _ rfl, ?_, cells_of' (h2 _ _ _) 0 _ rfl⟩, hb _ _ _, by simp⟩
  unfold World.frozen?
  rw [h1 o (.cells #[.int .i64 0] 3) (.cells #[.func (.func 123) #[] #[.pointer (some ⟨w.heap.size + 1, 0, none⟩), .pointer (some ⟨w.heap.size + 1 + 1, 0, none⟩)]] 162)]
  rfl
set_option maxRecDepth 20000 in
set_option maxHeartbeats 4000000 in
/-- syntax.CheckExpr, by its closure -/
theorem check57 {ne : Ex → Int} {e : Ex} (hs : ChkSpec ne e) {w : World} {cs : List Value} (hex : IsEx w (· < w.heap.size) e cs) : Calls Tryz.prog 57 #[.agg cs.toArray] w fun e' w' => e' = .returned (.int .i64 (chkE ne e 1 0).1) ∧ Below w.heap.size w w' := by
  obtain ⟨op, nm, b1, m1, b2, m2, ys, sl, rfl, hsl, rfl⟩ : ∃ op nm b1 m1 b2 m2 ys sl, e = .mk op nm b1 m1 b2 m2 ys ∧ IsSl w (· < w.heap.size) ys sl ∧ cs = [.int .i64 op, .string nm, .bool b1, .string m1, .bool b2, .string m2, sl] := by
    cases hex with
    | mk h => exact ⟨_, _, _, _, _, _, _, _, rfl, h, rfl⟩
  obtain ⟨s0, s1, s2, rfl⟩ : ∃ a l c, sl = .slice a l c := by cases hsl <;> exact ⟨_, _, _, rfl⟩
  go_enter Tryz.func57, Tryz.ntmps57
  go_wp2_with fail
  obtain ⟨h1, h2, h3⟩ := vis_new w (Obj.cells #[Value.int IntKind.i64 op, Value.string nm, Value.bool b1, Value.string m1, Value.bool b2, Value.string m2, Value.slice s0 s1 s2] 30)
  refine (hs _ (w.heap.size + 1) (w.heap.size + 1 + 1) 1 0 _ (by omega) h1 ((IsEx.mk hsl).mono (fun k hk => ⟨Nat.lt_of_lt_of_le hk h2.size, Nat.ne_of_lt (Nat.lt_succ_of_lt hk)⟩) (fun k hk => h2.block k hk))).mono ?_
  rintro e' w' ⟨rfl, hv, hb⟩
  have hb' : Below w.heap.size w w' := h2.trans ⟨hb.bel.os, hb.bel.tape, hb.bel.output, hb.bel.size, fun k hk => hb.same k (by rw [h3]; omega) (by omega)⟩
  clear h1 h2 h3 hv hb hs
  generalize hq : chkE ne (Ex.mk op nm b1 m1 b2 m2 ys) 1 0 = q
  go_wp2_with fail
  go_ret
  exact ⟨by rw [hq]; rfl, hb'⟩
/-- CheckExpr passes a typed tree -/
theorem check57_te {vs t d : Nat} {e : Ex} (h : TE vs t d e) (hd : d ≤ 6) {w : World} {cs : List Value} (hex : IsEx w (· < w.heap.size) e cs) : Calls Tryz.prog 57 #[.agg cs.toArray] w fun e' w' => e' = .returned (.int .i64 0) ∧ Below w.heap.size w w' := by
  have h6 := h.le hd
  obtain ⟨v', h1, _⟩ := chk_val h6 1 0 (by omega) (by omega)
  have := check57 (chk_te h6) hex
  rw [h1] at this
  exact this
#print axioms check57_te
end T1
