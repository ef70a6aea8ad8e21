/- A part of an evaluator of the program's operations over values that are known whole or in part, and of the proof that what it answers holds of the program's run. No condition. -/
import Derived.Test.YtlegocibpfflnaaGreatDoorS16
namespace Go.Ab

/-! What the evaluator leaves alone. -/
def Wf (h : Tr AB) (c : Nat) : Prop := ∀ n, c ≤ n → h.get n = none
def Gr (s : St) (r : Out) : Prop := ∀ v h c tl, r = .ok v h c tl → s.c ≤ c ∧ (∀ n, n ∉ tl → n < s.c → h.get n = s.h.get n) ∧ (Wf s.h s.c → Wf h c) ∧ ∀ n ∈ tl, ∃ o, s.h.get n = some o
theorem Gr.no (s : St) : Gr s .no := fun _ _ _ _ e => by cases e
theorem Gr.oE {α : Type} {s : St} {x : Option α} {f : α → Out} (h : ∀ a, Gr s (f a)) : Gr s (oE x .no f) := by
  cases x with
  | none => exact Gr.no s
  | some a => exact h a
theorem Gr.oE' {α : Type} {s : St} {x : Option α} {f : α → Out} (h : ∀ a, x = some a → Gr s (f a)) : Gr s (Go.Ab.oE x .no f) := by
  cases x with
  | none => exact Gr.no s
  | some a => exact h a rfl
theorem Gr.bE {s : St} {b : Bool} {x y : Out} (h : Gr s x) (k : Gr s y) : Gr s (bE b x y) := by cases b <;> assumption
theorem Gr.pE {α β : Type} {s : St} {p : α × β} {f : α → β → Out} (h : ∀ a b, Gr s (f a b)) : Gr s (pE p f) := h _ _
theorem Gr.pure (s : St) (v : AV) : Gr s (Go.Ab.pure s v) := fun _ _ _ _ e => by rw [pure_eq] at e; cases e; exact ⟨Nat.le_refl _, fun _ _ _ => rfl, fun h => h, by simp⟩
theorem Gr.pureO (s : St) (v : Option AV) : Gr s (Go.Ab.pureO s v) := by
  cases v with
  | none => exact Gr.no s
  | some v => exact Gr.pure s v
theorem Gr.newO (s : St) (o : AB) (f : Nat → AV) : Gr s (Go.Ab.newO s o f) := fun _ _ _ _ e => by
  rw [newO_eq] at e; cases e
  exact ⟨by omega, fun n _ hn => by rw [Tr.get_set, if_neg (by omega)], fun hw n hn => by rw [Tr.get_set, if_neg (by omega)]; exact hw n (by omega), by simp⟩
theorem Gr.upd (s : St) (v : AV) (n : Nat) (o : AB) (hn : ∃ o, s.h.get n = some o) : Gr s (Go.Ab.upd s v n o) := fun _ _ _ _ e => by
  rw [upd_eq] at e; cases e
  exact ⟨Nat.le_refl _, fun m hm _ => by rw [Tr.get_set, if_neg (by simpa using hm)], fun hw m hm => by
      obtain ⟨o', ho'⟩ := hn
      rw [Tr.get_set, if_neg (fun h => by rw [← h, hw m hm] at ho'; cases ho')]; exact hw m hm, fun m hm => by rw [List.mem_singleton.1 hm]; exact hn⟩
theorem Gr.storeC (s : St) (r : AV) (n o : Nat) (vs : List AV) : Gr s (Go.Ab.storeC s r n o vs) :=
  Gr.oE' fun ⟨_, _⟩ h => Gr.pE fun _ _ => Gr.oE fun _ => Gr.bE (Gr.upd _ _ _ _ ⟨_, (wcells_eq h).1⟩) (Gr.no s)
theorem elCells_get {h : Tr AB} {n : Nat} {c : List AV} (e : elCells h n = some c) : ∃ o, h.get n = some o := by
  obtain ⟨b, hb, _⟩ := oE_none_eq e
  exact ⟨b, hb⟩
theorem Gr.append (s : St) (z b m : Nat) (l : List AV) (x : AV) : Gr s (Go.Ab.append s z b m l x) := by
  unfold Go.Ab.append
  refine Gr.bE (Gr.bE (Gr.pure _ _) (Gr.no s)) ?_
  unfold appSome
  split
  · exact Gr.bE (Gr.newO _ _ _) (Gr.no s)
  · next n o ln cap =>
    refine Gr.bE ?_ (Gr.no s)
    unfold appCap
    split
    · exact Gr.bE (Gr.storeC _ _ _ _ _) (Gr.oE fun cs => Gr.oE fun old => Gr.newO _ _ _)
    · refine Gr.bE (Gr.oE' fun cs hcs => Gr.oE fun old => Gr.bE (Gr.oE fun cs' => Gr.upd _ _ _ _ (elCells_get hcs)) ?_) (Gr.no s)
      intro v h c tl e
      unfold appMove at e
      rw [upd_eq, show okE (Out.ok AV.nils (s.h.set n .dead) s.c [n]) Out.no (fun _ h c tl => newN c h (.cells .el (old ++ l)) (fun q => .sl q .zero (Nat.add ln m) (.el z)) tl) =
        newN s.c (s.h.set n .dead) (.cells .el (old ++ l)) (fun q => .sl q .zero (Nat.add ln m) (.el z)) [n] from rfl, newN_eq] at e
      cases e
      exact ⟨by omega, fun k hk hn => by rw [Tr.get_set, if_neg (by omega), Tr.get_set, if_neg (by simpa using hk)], fun hw k hk => by
        obtain ⟨o', ho'⟩ := elCells_get hcs
        rw [Tr.get_set, if_neg (by omega), Tr.get_set, if_neg (fun h => by rw [← h, hw k (by omega)] at ho'; cases ho')]; exact hw k (by omega), fun m hm => by rw [List.mem_singleton.1 hm]; exact elCells_get hcs⟩
  · exact Gr.no s
theorem Gr.convert (E : Env) (s : St) (a b : TD) (x : AV) : Gr s (Go.Ab.convert E s a b x) := by
  unfold Go.Ab.convert
  split
  · exact Gr.pureO _ _
  · exact Gr.pure _ _
  · exact Gr.bE (Gr.pure _ _) (Gr.no s)
  · exact Gr.bE (Gr.oE fun cs => Gr.oE fun l => Gr.pure _ _) (Gr.no s)
  · exact Gr.no s
theorem Gr.lookup (E : Env) (s : St) (x k : AV) (ok : Bool) (d : TD) : Gr s (Go.Ab.lookup E s x k ok d) := by
  unfold Go.Ab.lookup
  split
  · refine Gr.oE fun ki => Gr.bE (Gr.oE fun ei => Gr.oE fun es => Gr.oE fun r => ?_) (Gr.no s)
    cases r with
    | none => exact Gr.oE fun v => Gr.pure _ _
    | some v => exact Gr.pure _ _
  · exact Gr.no s
theorem Gr.mapUpd (E : Env) (s : St) (k v : AV) (d : TD) (x : AV) : Gr s (Go.Ab.mapUpd E s k v d x) := by
  unfold Go.Ab.mapUpd
  split
  · exact Gr.oE fun ki => Gr.bE (Gr.oE' fun es hes => Gr.oE fun es' => Gr.upd _ _ _ _ ⟨_, amap_eq hes⟩) (Gr.no s)
  · exact Gr.no s
theorem Gr.next (s : St) (str : Bool) (x : AV) : Gr s (Go.Ab.next s str x) := by
  unfold Go.Ab.next
  split
  · refine Gr.bE (Gr.oE' fun b hb => ?_) (Gr.no s)
    split
    · next l p =>
      unfold next1
      cases nth l p with
      | none => exact Gr.bE (Gr.pure _ _) (Gr.no s)
      | some b => exact Gr.bE (Gr.upd _ _ _ _ ⟨_, hb⟩) (Gr.no s)
    · exact Gr.no s
  · exact Gr.no s
theorem Gr.bi (E : Env) (s : St) (b : Builtin) (l : List Operand) (t : List TypeId) : Gr s (Go.Ab.bi E s b l t) := by
  unfold Go.Ab.bi
  split
  · exact Gr.oE fun v => Gr.oE fun ti => Gr.pureO _ _
  · exact Gr.oE fun a => Gr.oE fun b => Gr.oE fun ei => Gr.oE fun ui => Gr.bE (Gr.no s) (Gr.bE (Gr.oE fun m => Gr.oE fun cs => Gr.bE (Gr.append _ _ _ _ _ _) (Gr.no s)) (Gr.no s))
  · refine Gr.oE fun l => ?_
    cases l with
    | nil => exact Gr.no s
    | cons a r => exact Gr.pureO _ _
  · refine Gr.oE fun l => ?_
    cases l with
    | nil => exact Gr.no s
    | cons a r => exact Gr.pureO _ _
  · exact Gr.no s
theorem Gr.disp {E : Env} {rec : Rec} {s : St} (op : Op) (hk : kindOp op ≠ 2) : Gr s (Go.Ab.disp op E rec s) := by
  cases op with
  | move x => exact Gr.pureO _ _
  | assign x => exact Gr.pureO _ _
  | pick q x y => exact Gr.pureO _ _
  | alloc t => exact Gr.oE fun ti => Gr.newO _ _ _
  | box t x => exact Gr.oE fun v => Gr.oE fun cs => Gr.newO _ _ _
  | build t ps => exact Gr.oE fun l => Gr.oE fun ti => Gr.pureO _ _
  | buildSlice t n ps => exact Gr.oE fun l => Gr.oE fun ei => Gr.bE (Gr.oE fun c => Gr.newO _ _ _) (Gr.no s)
  | insert t m k x => exact Gr.oE fun a => Gr.oE fun b => Gr.oE fun c => Gr.oE fun ti => Gr.mapUpd _ _ _ _ _ _
  | mapUpdate t m k x => exact Gr.oE fun a => Gr.oE fun b => Gr.oE fun c => Gr.oE fun ti => Gr.mapUpd _ _ _ _ _ _
  | load t x => exact Gr.oE fun v => Gr.pureO _ _
  | store t p x => exact Gr.oE fun a => Gr.oE fun v => Gr.oE fun q => Gr.pE fun n o => Gr.oE fun ti => Gr.oE fun cs => Gr.bE (Gr.storeC _ _ _ _ _) (Gr.no s)
  | nilCheck x => exact Gr.pureO _ _
  | binOp op t x y hint => exact Gr.oE fun a => Gr.oE fun b => Gr.pureO _ _
  | unOp op t x => exact Gr.oE fun a => Gr.pureO _ _
  | convert p q x => exact Gr.oE fun v => Gr.oE fun si => Gr.oE fun di => Gr.convert _ _ _ _ _
  | makeFunc f first cap =>
    cases f with
    | func f => exact Gr.oE fun a => Gr.oE fun b => Gr.pure _ _
    | _ => exact Gr.no s
  | makeMap t r =>
    cases r with
    | some x => exact Gr.no s
    | none => exact Gr.newO _ _ _
  | makeSlice t l cp => exact Gr.oE fun lv => Gr.oE fun cv => Gr.oE fun ei => Gr.oE fun ln => Gr.oE fun cn => Gr.bE (Gr.newO _ _ _) (Gr.no s)
  | slice t x lo hi mx => exact Gr.oE fun v => Gr.pureO _ _
  | fieldAddr t x f => exact Gr.oE fun v => Gr.oE fun p => Gr.pE fun off fi => Gr.pureO _ _
  | field t x f => exact Gr.oE fun v => Gr.oE fun p => Gr.pE fun off fi => Gr.pureO _ _
  | indexAddr t x i => exact Gr.oE fun a => Gr.oE fun b => Gr.pureO _ _
  | index t x i => exact Gr.oE fun a => Gr.oE fun b => Gr.oE fun n => Gr.pureO _ _
  | lookup t x k ok => exact Gr.oE fun a => Gr.oE fun b => Gr.oE fun ti => Gr.lookup _ _ _ _ _ _
  | range t x =>
    refine Gr.oE fun v => Gr.oE fun ti => ?_
    unfold rangeV
    split
    · exact Gr.newO _ _ _
    · exact Gr.no s
  | next x str => exact Gr.oE fun v => Gr.next _ _ _
  | extract x i => exact Gr.pureO _ _
  | makeInterface t x => exact Gr.oE fun v => Gr.oE fun ti => Gr.bE (Gr.pure _ _) (Gr.no s)
  | call cl =>
    obtain ⟨callee, args, argTypes⟩ := cl
    cases callee with
    | builtin b => exact Gr.bi _ _ _ _ _
    | value x => exact absurd rfl hk
    | invoke x n => exact absurd rfl hk
  | _ => exact Gr.no s
end Go.Ab
