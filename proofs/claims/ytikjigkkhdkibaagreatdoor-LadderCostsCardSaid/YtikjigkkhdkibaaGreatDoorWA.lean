/- YtikjigkkhdkibaaGreatDoorWA: a part of the proofs of given statements of this seat; no condition beyond them. -/
import Derived.RangeFuncLeaves
import Derived.RangeFuncRecord
import Derived.RangeFuncNested
import Derived.WalkKit
import Derived.OwnWalkIn
import Derived.TacticsInMore
import Derived.IntWalk
import Derived.OrdersIn
set_option linter.unusedVariables false
/- The ground: the wide fence, what is kept from world to world, a call's own blocks, facts that stay. Over any program. -/
namespace Go.Proofs.YtikjigkkhdkibaaGreatDoor.W
open Go.RowKit

/-- the wide fence, within a round or not -/
def FW (ro : Option Nat) : Fence := { fn := fun _ => True, depth := none, alive := false, round := ro }
theorem FW_in (ro : Option Nat) (l : Nat) : (FW ro).inRound l = FW (some l) := rfl
@[simp] theorem FW_fn (ro : Option Nat) (f : FuncId) : (FW ro).fn f = True := rfl
@[simp] theorem FW_depth (ro : Option Nat) : (FW ro).depth = none := rfl
@[simp] theorem FW_round (ro : Option Nat) : (FW ro).round = ro := rfl

/-- outside M all is as it was -/
structure Kept (M : Nat → Prop) (w w' : World) : Prop where
  os : w'.os = w.os
  tape : w'.tape = w.tape
  output : w'.output = w.output
  size : w.heap.size ≤ w'.heap.size
  block : ∀ k, k < w.heap.size → ¬ M k → w'.heap[k]? = w.heap[k]?
/-- nothing -/
def No : Nat → Prop := fun _ => False
theorem Kept.refl (M : Nat → Prop) (w : World) : Kept M w w := ⟨rfl, rfl, rfl, Nat.le_refl _, fun _ _ _ => rfl⟩
theorem Kept.trans {M : Nat → Prop} {a b c : World} (h : Kept M a b) (k : Kept M b c) : Kept M a c :=
  ⟨k.os.trans h.os, k.tape.trans h.tape, k.output.trans h.output, Nat.le_trans h.size k.size, fun i hi hm => (k.block i (Nat.lt_of_lt_of_le hi h.size) hm).trans (h.block i hi hm)⟩
theorem Kept.weaken {M M' : Nat → Prop} {a b : World} (h : Kept M a b) (hm : ∀ k, k < a.heap.size → M k → M' k) : Kept M' a b :=
  ⟨h.os, h.tape, h.output, h.size, fun i hi hn => h.block i hi fun h => hn (hm i hi h)⟩
theorem Kept.below {w w' : World} (h : Kept No w w') : Below w.heap.size w w' := ⟨h.os, h.tape, h.output, h.size, fun k hk => h.block k hk id⟩
theorem Kept.alloc (M : Nat → Prop) (w : World) (o : Obj) : Kept M w (w.alloc o) := ⟨rfl, rfl, rfl, by simp, fun k hk _ => Below.heap_alloc w o k hk⟩

/-- a call that returns; outside M nothing that was there has turned -/
def Ok (P : Program) (M : Nat → Prop) (f : FuncId) (args : Array Value) (w : World) (R : Value → World → Prop) : Prop :=
  Calls P f args w fun e w' => ∃ v, e = .returned v ∧ Kept M w w' ∧ R v w'
theorem Ok.mono {P : Program} {M : Nat → Prop} {f : FuncId} {args : Array Value} {w : World} {R R' : Value → World → Prop} (h : Ok P M f args w R) (hr : ∀ v w', R v w' → R' v w') : Ok P M f args w R' :=
  Calls.mono h fun _ _ ⟨v, he, hb, r⟩ => ⟨v, he, hb, hr _ _ r⟩
theorem callsIn_FW {ro : Option Nat} {n : Nat} {P : Program} {f : FuncId} {args : Array Value} {w : World} {R : Ending → World → Prop} (h : Calls P f args w R) : CallsIn (FW ro) n P f args w R := by
  have h1 : CallsIn (FW none) n P f args w R := callsIn_wide.2 h
  cases ro with
  | none => exact h1
  | some l => exact h1.inRound l

/-! ### a call's own blocks -/
/-- a block: its address; whether it is there; what is known of what it holds; what is known besides -/
structure Ent where
  b : Nat
  real : Prop
  pd : Obj → Prop
  pure : Prop
abbrev LB := List Ent
/-- the call's own blocks; nothing that was there at its beginning has turned, but in M -/
structure St (M : Nat → Prop) (w0 : World) (l : LB) (w : World) : Prop where
  kept : Kept M w0 w
  inj : ∀ (i j : Nat) (p q : Ent), l[i]? = some p → l[j]? = some q → p.real → q.real → p.b = q.b → i = j
  own : ∀ (i : Nat) (p : Ent), l[i]? = some p → p.pure ∧ (p.real → (M p.b ∨ w0.heap.size ≤ p.b) ∧ ∃ o, w.heap[p.b]? = some o ∧ p.pd o)
/-- not one of the call's own -/
def Off (l : LB) (b : Nat) : Prop := ∀ (i : Nat) (p : Ent), l[i]? = some p → p.real → p.b ≠ b
/-- what is kept: whatever was there and was not the call's own, is as it was, and is not the call's own -/
structure Tr (l : LB) (w : World) (l' : LB) (w' : World) : Prop where
  size : w.heap.size ≤ w'.heap.size
  keep : ∀ b, b < w.heap.size → Off l b → Off l' b ∧ w'.heap[b]? = w.heap[b]?
theorem lt_of_some {w : World} {b : Nat} {o : Obj} (h : w.heap[b]? = some o) : b < w.heap.size := (Array.getElem?_eq_some_iff.1 h).1
variable {M : Nat → Prop}
theorem St.start (w : World) : St M w [] w := ⟨Kept.refl _ _, by simp, by simp⟩
theorem St.lt {w0 w : World} {l : LB} (h : St M w0 l w) {i : Nat} {p : Ent} (hp : l[i]? = some p) (hr : p.real) : p.b < w.heap.size := by
  obtain ⟨_, o, h1, _⟩ := (h.own i p hp).2 hr
  exact lt_of_some h1
theorem St.size {w0 w : World} {l : LB} (h : St M w0 l w) : w0.heap.size ≤ w.heap.size := h.kept.size
theorem St.offNew {w0 w : World} {l : LB} (h : St M w0 l w) {b : Nat} (hb : w.heap.size ≤ b) : Off l b := fun i p hp hr e => by
  have := h.lt hp hr
  omega
theorem get_snoc {α : Type _} {l : List α} {x p : α} {i : Nat} (h : (l ++ [x])[i]? = some p) : l[i]? = some p ∨ (i = l.length ∧ p = x) := by
  rw [List.getElem?_append] at h
  split at h
  · exact .inl h
  · rename_i hi
    right
    have : i - l.length = 0 := by
      rcases Nat.eq_zero_or_pos (i - l.length) with h0 | h0
      · exact h0
      · rw [List.getElem?_eq_none (by simp; omega)] at h; cases h
    rw [this] at h
    simp at h
    exact ⟨by omega, h.symm⟩
theorem get_set {α : Type _} {l : List α} {x p y : α} {i j : Nat} (hj : l[j]? = some y) (h : (l.set j x)[i]? = some p) : (i = j ∧ p = x) ∨ (i ≠ j ∧ l[i]? = some p) := by
  by_cases e : j = i
  · subst e
    rw [List.getElem?_set_self (List.getElem?_eq_some_iff.1 hj).1] at h
    exact .inl ⟨rfl, (Option.some.inj h).symm⟩
  · rw [List.getElem?_set_ne e] at h
    exact .inr ⟨fun h => e h.symm, h⟩
theorem St.alloc {w0 w : World} {l : LB} (h : St M w0 l w) (o : Obj) {x : Ent} (hb : x.b = w.heap.size) (hx : x.pd o) (hpure : x.pure) : St M w0 (l ++ [x]) (w.alloc o) := by
  refine ⟨h.kept.trans (Kept.alloc M w o), ?_, ?_⟩
  · intro i j p q hp hq hr hr' e
    rcases get_snoc hp with hp1 | ⟨e1, e2⟩ <;> rcases get_snoc hq with hq1 | ⟨e3, e4⟩
    · exact h.inj i j p q hp1 hq1 hr hr' e
    · have := h.lt hp1 hr; rw [e4] at e; omega
    · have := h.lt hq1 hr'; rw [e2] at e; omega
    · rw [e1, e3]
  · intro i p hp
    rcases get_snoc hp with hp | ⟨rfl, rfl⟩
    · refine ⟨(h.own i p hp).1, fun hr => ?_⟩
      obtain ⟨h1, o', h2, h3⟩ := (h.own i p hp).2 hr
      exact ⟨h1, o', (Below.heap_alloc w o p.b (h.lt hp hr)).trans h2, h3⟩
    · exact ⟨hpure, fun _ => ⟨.inr (by rw [hb]; exact h.size), o, by rw [hb]; exact World.alloc_heap_new w o, hx⟩⟩
theorem Tr.alloc (w : World) (l : LB) (o : Obj) {x : Ent} (hb : x.b = w.heap.size) : Tr l w (l ++ [x]) (w.alloc o) := by
  refine ⟨by simp, fun b hlt ho => ⟨fun i p hp hr => ?_, Below.heap_alloc w o b hlt⟩⟩
  rcases get_snoc hp with hp | ⟨rfl, rfl⟩
  · exact ho i p hp hr
  · omega
/-- one of the call's own blocks is given up for a new one -/
theorem St.realloc {w0 w : World} {l : LB} (h : St M w0 l w) (o : Obj) {j : Nat} {x y : Ent} (hj : l[j]? = some y) (hb : x.b = w.heap.size) (hx : x.pd o) (hpure : x.pure) : St M w0 (l.set j x) (w.alloc o) := by
  refine ⟨h.kept.trans (Kept.alloc M w o), ?_, ?_⟩
  · intro i i' p q hp hq hr hr' e
    rcases get_set hj hp with ⟨e1, rfl⟩ | ⟨hi, hp1⟩ <;> rcases get_set hj hq with ⟨e3, rfl⟩ | ⟨hi', hq1⟩
    · rw [e1, e3]
    · have := h.lt hq1 hr'; omega
    · have := h.lt hp1 hr; omega
    · exact h.inj _ _ _ _ hp1 hq1 hr hr' e
  · intro i p hp
    rcases get_set hj hp with ⟨rfl, rfl⟩ | ⟨hi, hp⟩
    · exact ⟨hpure, fun _ => ⟨.inr (by rw [hb]; exact h.size), o, by rw [hb]; exact World.alloc_heap_new w o, hx⟩⟩
    · refine ⟨(h.own i p hp).1, fun hr => ?_⟩
      obtain ⟨h1, o', h2, h3⟩ := (h.own i p hp).2 hr
      exact ⟨h1, o', (Below.heap_alloc w o p.b (h.lt hp hr)).trans h2, h3⟩
theorem Tr.realloc (w : World) (l : LB) (o : Obj) {j : Nat} {x y : Ent} (hj : l[j]? = some y) (hb : x.b = w.heap.size) : Tr l w (l.set j x) (w.alloc o) := by
  refine ⟨by simp, fun b hlt ho => ⟨fun i p hp hr => ?_, Below.heap_alloc w o b hlt⟩⟩
  rcases get_set hj hp with ⟨rfl, rfl⟩ | ⟨_, hp⟩
  · omega
  · exact ho i p hp hr
theorem St.call {w0 w w' : World} {l : LB} (h : St M w0 l w) (hb : Kept No w w') : St M w0 l w' :=
  ⟨h.kept.trans (hb.weaken fun _ _ h => h.elim), h.inj, fun i p hp => ⟨(h.own i p hp).1, fun hr => by
    obtain ⟨h1, o', h2, h3⟩ := (h.own i p hp).2 hr
    exact ⟨h1, o', (hb.block _ (h.lt hp hr) id).trans h2, h3⟩⟩⟩
theorem Tr.call {w w' : World} (l : LB) (hb : Kept No w w') : Tr l w l w' := ⟨hb.size, fun b h ho => ⟨ho, hb.block b h id⟩⟩
theorem Tr.refl (l : LB) (w : World) : Tr l w l w := ⟨Nat.le_refl _, fun _ _ h => ⟨h, rfl⟩⟩
theorem Tr.trans {l l' l'' : LB} {w w' w'' : World} (h : Tr l w l' w') (k : Tr l' w' l'' w'') : Tr l w l'' w'' :=
  ⟨Nat.le_trans h.size k.size, fun b hb ho => let ⟨h1, h2⟩ := h.keep b hb ho; let ⟨k1, k2⟩ := k.keep b (Nat.lt_of_lt_of_le hb h.size) h1; ⟨k1, k2.trans h2⟩⟩
/-- one of the call's own blocks has turned, by whatever means, and nothing else that was there -/
theorem St.turnBy {w0 w w' : World} {l : LB} (h : St M w0 l w) {j : Nat} {x y : Ent} (hj : l[j]? = some y) (hy : y.real) (hk : Kept (· = y.b) w w') (hb : x.b = y.b) (hx : ∃ o, w'.heap[y.b]? = some o ∧ x.pd o) (hpure : x.pure) : St M w0 (l.set j x) w' := by
  have hbb := ((h.own _ _ hj).2 hy).1
  have hlt := h.lt hj hy
  refine ⟨?_, ?_, ?_⟩
  · refine ⟨hk.os.trans h.kept.os, hk.tape.trans h.kept.tape, hk.output.trans h.kept.output, Nat.le_trans h.kept.size hk.size, fun k hkl hm => ?_⟩
    rw [← h.kept.block k hkl hm]
    refine hk.block k (Nat.lt_of_lt_of_le hkl h.size) ?_
    rintro rfl
    rcases hbb with hb' | hb'
    · exact hm hb'
    · omega
  · intro i i' p q hp hq hr hr' e
    rcases get_set hj hp with ⟨e1, e2⟩ | ⟨hi, hp1⟩ <;> rcases get_set hj hq with ⟨e3, e4⟩ | ⟨hi', hq1⟩
    · rw [e1, e3]
    · rw [e1]; exact h.inj _ _ _ _ hj hq1 hy hr' (by rw [← e, e2, hb])
    · rw [e3]; exact h.inj _ _ _ _ hp1 hj hr hy (by rw [e, e4, hb])
    · exact h.inj _ _ _ _ hp1 hq1 hr hr' e
  · intro i p hp
    rcases get_set hj hp with ⟨rfl, rfl⟩ | ⟨hi, hp⟩
    · exact ⟨hpure, fun _ => ⟨by rw [hb]; exact hbb, by rw [hb]; exact hx⟩⟩
    · refine ⟨(h.own _ _ hp).1, fun hr => ?_⟩
      obtain ⟨h1, o', h2, h3⟩ := (h.own i p hp).2 hr
      exact ⟨h1, o', (hk.block _ (h.lt hp hr) (fun e => hi (h.inj _ _ _ _ hp hj hr hy e))).trans h2, h3⟩
theorem Tr.turnBy {w w' : World} {l : LB} {j : Nat} {x y : Ent} (hj : l[j]? = some y) (hy : y.real) (hb : x.b = y.b) (hk : Kept (· = y.b) w w') : Tr l w (l.set j x) w' := by
  refine ⟨hk.size, fun k hlt ho => ⟨fun i p hp hr => ?_, hk.block k hlt (fun e => ho _ _ hj hy e.symm)⟩⟩
  rcases get_set hj hp with ⟨_, e2⟩ | ⟨_, hp⟩
  · rw [e2, hb]; exact ho _ _ hj hy
  · exact ho _ _ hp hr
/-- what is known of one of the own blocks is put otherwise, or is forgotten -/
theorem St.put {w0 w : World} {l : LB} (h : St M w0 l w) {j : Nat} {x y : Ent} (hj : l[j]? = some y) (hb : x.real → x.b = y.b ∧ y.real) (hx : ∀ o, y.pure → y.pd o → x.pd o) (hp : y.pure → x.pure) : St M w0 (l.set j x) w := by
  refine ⟨h.kept, ?_, ?_⟩
  · intro i i' p q hp hq hr hr' e
    rcases get_set hj hp with ⟨e1, rfl⟩ | ⟨hi, hp1⟩ <;> rcases get_set hj hq with ⟨e3, rfl⟩ | ⟨hi', hq1⟩
    · rw [e1, e3]
    · obtain ⟨hb1, hb2⟩ := hb hr
      rw [e1]; exact h.inj _ _ _ _ hj hq1 hb2 hr' (by rw [← e, hb1])
    · obtain ⟨hb1, hb2⟩ := hb hr'
      rw [e3]; exact h.inj _ _ _ _ hp1 hj hr hb2 (by rw [e, hb1])
    · exact h.inj _ _ _ _ hp1 hq1 hr hr' e
  · intro i p hp'
    rcases get_set hj hp' with ⟨rfl, rfl⟩ | ⟨hi, hp'⟩
    · refine ⟨hp (h.own _ _ hj).1, fun hr => ?_⟩
      obtain ⟨hb1, hb2⟩ := hb hr
      obtain ⟨h1, o', h2, h3⟩ := (h.own _ _ hj).2 hb2
      exact ⟨by rw [hb1]; exact h1, o', by rw [hb1]; exact h2, hx _ (h.own _ _ hj).1 h3⟩
    · exact h.own i p hp'
theorem Tr.put {w : World} {l : LB} {j : Nat} {x y : Ent} (hj : l[j]? = some y) (hb : x.real → x.b = y.b ∧ y.real) : Tr l w (l.set j x) w := by
  refine ⟨Nat.le_refl _, fun k _ ho => ⟨fun i p hp hr => ?_, rfl⟩⟩
  rcases get_set hj hp with ⟨_, rfl⟩ | ⟨_, hp⟩
  · obtain ⟨h1, h2⟩ := hb hr
    rw [h1]; exact ho _ _ hj h2
  · exact ho _ _ hp hr
theorem get_take {α : Type _} {l : List α} {n i : Nat} {p : α} (h : (l.take n)[i]? = some p) : l[i]? = some p := by
  rw [List.getElem?_take] at h
  split at h
  · exact h
  · cases h
theorem St.take {w0 w : World} {l : LB} (h : St M w0 l w) (n : Nat) : St M w0 (l.take n) w :=
  ⟨h.kept, fun i j p q hp hq => h.inj i j p q (get_take hp) (get_take hq), fun i p hp => h.own i p (get_take hp)⟩
theorem Tr.take {w : World} (l : LB) (n : Nat) : Tr l w (l.take n) w := ⟨Nat.le_refl _, fun _ _ ho => ⟨fun i p hp => ho i p (get_take hp), rfl⟩⟩

/-! ### blocks that turn -/
def turned (w : World) (b : Nat) (o : Obj) : World := { w with heap := w.heap.modify b fun _ => o }
theorem kept_turned (w : World) (b : Nat) (o : Obj) : Kept (· = b) w (turned w b o) := by
  refine ⟨rfl, rfl, rfl, by simp [turned], fun k _ hk => ?_⟩
  simp only [turned, Array.getElem?_modify]
  rw [if_neg (fun e => hk e.symm)]
theorem turned_block {w : World} {b : Nat} {o : Obj} (o' : Obj) (h : w.heap[b]? = some o) : (turned w b o').heap[b]? = some o' := by
  simp [turned, Array.getElem?_modify, h]
theorem setCell_turned {w : World} {b : Nat} {cs : Array Value} {t : TypeId} {fz : Nat × Nat} (h : w.heap[b]? = some (.cells cs t fz)) (o : Nat) (v : Value) :
    w.setCell ⟨b, o, none⟩ v = turned w b (.cells (cs.setIfInBounds o v) t fz) := by
  unfold World.setCell turned
  congr 1
  refine Array.ext_getElem? fun i => ?_
  rw [Array.getElem?_modify, Array.getElem?_modify]
  split
  · rename_i e; subst e; rw [h]; rfl
  · rfl
theorem cell_of {w : World} {b : Nat} {cs : Array Value} {t : TypeId} {fz : Nat × Nat} (h : w.heap[b]? = some (.cells cs t fz)) (o : Nat) : w.cell? ⟨b, o, none⟩ = cs[o]? := by
  unfold World.cell?
  rw [h]
  rfl
/-- the first n cells may be written -/
def Thaw (fz : Nat × Nat) (n : Nat) : Prop := ∀ o, o < n → (decide (fz.1 ≤ o) && decide (o < fz.2)) = false
theorem Thaw.zero (n : Nat) : Thaw (0, 0) n := fun _ _ => by simp
theorem Thaw.behind {a b n : Nat} (h : n ≤ a) : Thaw (a, b) n := fun o ho => by simp; omega
theorem frozen_of {w : World} {b : Nat} {cs : Array Value} {t : TypeId} {fz : Nat × Nat} {n : Nat} (h : w.heap[b]? = some (.cells cs t fz)) (hz : Thaw fz n) {o : Nat} (ho : o < n) : w.frozen? ⟨b, o, none⟩ = false := by
  unfold World.frozen?
  rw [h]
  exact hz o ho

/-! ### what stays -/
/-- from one world to another, what A lets by stays, and A' lets it by -/
def KP (A : Nat → Prop) (w : World) (A' : Nat → Prop) (w' : World) : Prop := ∀ b, b < w.heap.size → A b → A' b ∧ w'.heap[b]? = w.heap[b]?
theorem KP.refl (A : Nat → Prop) (w : World) : KP A w A w := fun _ _ h => ⟨h, rfl⟩
theorem KP.trans {A A' A'' : Nat → Prop} {w w' w'' : World} (h : KP A w A' w') (k : KP A' w' A'' w'') : KP A w A'' w'' := fun b hb ha => by
  obtain ⟨h1, h2⟩ := h b hb ha
  have hlt : b < w'.heap.size := by
    rcases Nat.lt_or_ge b w'.heap.size with h3 | h3
    · exact h3
    · rw [Array.getElem?_eq_none h3] at h2
      rw [Array.getElem?_eq_getElem hb] at h2
      cases h2
  obtain ⟨k1, k2⟩ := k b hlt h1
  exact ⟨k1, k2.trans h2⟩
/-- in a call that began in w0, on blocks of A: what it may read -/
def In (A M : Nat → Prop) (w0 : World) (l : LB) : Nat → Prop := fun b => Off l b ∧ (A b ∨ M b ∨ w0.heap.size ≤ b)
variable {A A' : Nat → Prop} {w w' w0 : World} {l l' : LB}
theorem KP.start (A M : Nat → Prop) (w : World) : KP A w (In A M w []) w := fun _ _ h => ⟨⟨fun _ _ h => by simp at h, .inl h⟩, rfl⟩
theorem KP.tr (h : Tr l w l' w') : KP (In A M w0 l) w (In A M w0 l') w' := fun b hb ⟨h1, h2⟩ =>
  let ⟨k1, k2⟩ := h.keep b hb h1; ⟨⟨k1, h2⟩, k2⟩
theorem KP.call (h : Kept No w w') : KP A w A w' := fun b hb ha => ⟨ha, h.block b hb id⟩
/-- blocks that one may turn, and blocks that one relies on -/
abbrev Foot := (Nat → Prop) × (Nat → Prop)
/-- what a call stands in: the blocks of its caller's that it may turn; the world in which it began; the blocks that it may read; the blocks that one whom it yields to had at first; that one's blocks, and how that one stands behind so many rounds (none: it has left); what that one may come to rely on -/
structure Amb where
  M : Nat → Prop
  w0 : World
  A : Nat → Prop
  G : Nat → Prop
  Mu : Foot
  Z : Option Nat → Foot → World → Prop
  stb : ∀ s Mu w w', Z s Mu w → Kept (fun b => ¬ Mu.1 b ∧ ¬ Mu.2 b) w w' → Z s Mu w'
  N : Nat → Prop
  free : Prop
  hfree : free → (∀ b, G b) ∧ ∀ b, A b ∨ M b ∨ w0.heap.size ≤ b → N b
  mono : ∀ s (Mu Mu' : Foot) w, Z s Mu w → Mu'.1 = Mu.1 → (∀ b, Mu.2 b → Mu'.2 b) → Z s Mu' w
def Amb.mu (ω : Amb) (Mu : Foot) : Amb := { ω with Mu := Mu }
/-- it yields to nobody -/
def amb0 (M : Nat → Prop) (w0 : World) (A : Nat → Prop) : Amb := ⟨M, w0, A, No, (No, No), fun _ _ _ => True, fun _ _ _ _ _ _ => trivial, fun _ => True, False, fun h => h.elim, fun _ _ _ _ _ _ _ => trivial⟩
/-- what it may read -/
def Amb.In (ω : Amb) (l : LB) : Nat → Prop := fun b => Off l b ∧ ¬ ω.Mu.1 b ∧ (ω.A b ∨ ω.M b ∨ ω.w0.heap.size ≤ b)
theorem KP.trω {ω : Amb} (h : Tr l w l' w') : KP (ω.In l) w (ω.In l') w' := fun b hb ⟨h1, h2⟩ =>
  let ⟨k1, k2⟩ := h.keep b hb h1; ⟨⟨k1, h2⟩, k2⟩
/-- a fact about memory that nobody turns -/
structure Fact where
  F : (Nat → Prop) → World → Prop
  stb : ∀ A w A' w', KP A w A' w' → F A w → F A' w'
abbrev Facts := List Fact
def Hold (fs : Facts) (A : Nat → Prop) (w : World) : Prop := ∀ f ∈ fs, f.F A w
theorem Hold.kp {fs : Facts} (h : Hold fs A w) (k : KP A w A' w') : Hold fs A' w' := fun f hf => f.stb _ _ _ _ k (h f hf)
theorem Hold.nil : Hold [] A w := fun _ h => by cases h
theorem Hold.cons {f : Fact} {fs : Facts} (h : f.F A w) (hs : Hold fs A w) : Hold (f :: fs) A w := fun g hg => by
  rcases List.mem_cons.1 hg with rfl | hg
  · exact h
  · exact hs g hg
theorem Hold.append {fs gs : Facts} (h : Hold fs A w) (hs : Hold gs A w) : Hold (fs ++ gs) A w := fun g hg => by
  rcases List.mem_append.1 hg with hg | hg
  · exact h g hg
  · exact hs g hg
end Go.Proofs.YtikjigkkhdkibaaGreatDoor.W

/- The model's operations, at values. Over any program. -/
namespace Go.Proofs.YtikjigkkhdkibaaGreatDoor.W
open Go.RowKit
variable {P : Program} {E : Operand → Value} {w : World}
variable {d : Option Tmp} {ty : TypeId} {pos : String} {af : Array Edge} {g : Option (Nat × Bool)}
theorem x_move {x : Operand} {v : Value} (hx : E x = v) :
    (execOp E ⟨d, .move x, ty, pos, af, g⟩).run P w = .ok (.value v) w := by subst hx; rfl
theorem x_assign {x : Operand} {v : Value} (hx : E x = v) :
    (execOp E ⟨d, .assign x, ty, pos, af, g⟩).run P w = .ok (.value v) w := by subst hx; rfl
theorem x_pickT {c x y : Operand} {v : Value} (hc : E c = .bool true) (hx : E x = v) :
    (execOp E ⟨d, .pick c x y, ty, pos, af, g⟩).run P w = .ok (.value v) w := by simp [execOp, hc, asBool, hx]
theorem x_pickF {c x y : Operand} {v : Value} (hc : E c = .bool false) (hx : E y = v) :
    (execOp E ⟨d, .pick c x y, ty, pos, af, g⟩).run P w = .ok (.value v) w := by simp [execOp, hc, asBool, hx]
theorem x_extract {x : Operand} {i : Nat} {vs : Array Value} {v : Value} (hx : E x = .tuple vs) (hv : vs[i]? = some v) :
    (execOp E ⟨d, .extract x i, ty, pos, af, g⟩).run P w = .ok (.value v) w := (by simp [execOp, hx, Instr.extract, hv])
theorem x_iface {x : Operand} {t : TypeId} {dsc : TypeDesc} {v : Value} (hx : E x = v) (hu : ∀ w, (underlying t).run P w = .ok dsc w) (hd : (match dsc with | .interface _ => true | _ => false) = false) :
    (execOp E ⟨d, .makeInterface t x, ty, pos, af, g⟩).run P w = .ok (.value (.iface t v)) w := (by subst hx; cases dsc <;> first | (cases hd; done) | simp [execOp, Instr.makeInterface, hu])
theorem x_makeFunc {f : Fn} {xs ys : Array Operand} {us vs : List Value} (hx : xs.toList.map E = us) (hy : ys.toList.map E = vs) :
    (execOp E ⟨d, .makeFunc f xs ys, ty, pos, af, g⟩).run P w = .ok (.value (.func f us.toArray vs.toArray)) w := by
  have e1 : xs.map E = us.toArray := by apply Array.toList_inj.1; simp [← hx]
  have e2 : ys.map E = vs.toArray := by apply Array.toList_inj.1; simp [← hy]
  simp [execOp, Instr.makeFunc, e1, e2]
theorem x_not {x : Operand} {t : TypeId} {b : Bool} (hx : E x = .bool b) :
    (execOp E ⟨d, .unOp .not t x, ty, pos, af, g⟩).run P w = .ok (.value (.bool (!b))) w := (by simp [execOp, hx, Op.unary])
theorem run_eqGuard {op : BinOp} {t : TypeId} {x y : Operand} {k k' : IntKind} {m n : Int} : (eqGuard op t x y (.int k m) (.int k' n)).run P w = .ok () w := by
  unfold eqGuard
  split <;> rfl
def cmpI (op : BinOp) (m n : Int) : Option Bool :=
  match op with | .eql => some (m == n) | .neq => some (m != n) | .lss => some (decide (m < n)) | .leq => some (decide (m ≤ n)) | .gtr => some (decide (m > n)) | .geq => some (decide (m ≥ n)) | _ => none
theorem x_cmp {op : BinOp} {x y : Operand} {t u : TypeId} {k : IntKind} {m n : Int} {b : Bool} (hx : E x = .int k m) (hy : E y = .int k n)
    (hb : cmpI op m n = some b) :
    (execOp E ⟨d, .binOp op t x y u, ty, pos, af, g⟩).run P w = .ok (.value (.bool b)) w := (by
    cases op <;> simp only [cmpI, Option.some.injEq, reduceCtorEq] at hb <;> subst hb <;> simp [execOp, hx, hy, run_eqGuard, binOp, Op.intCmp])
def ariI (op : BinOp) (k : IntKind) (m n : Int) : Option Int :=
  match op with
  | .add => some (k.wrap (m + n)) | .sub => some (k.wrap (m - n)) | .mul => some (k.wrap (m * n))
  | .quo => if n = 0 then none else some (k.wrap (m.tdiv n)) | .rem => if n = 0 then none else some (m.tmod n)
  | .and => some (k.wrap (BitVec.ofInt k.bits m &&& BitVec.ofInt k.bits n).toNat)
  | .or => some (k.wrap (BitVec.ofInt k.bits m ||| BitVec.ofInt k.bits n).toNat)
  | .xor => some (k.wrap (BitVec.ofInt k.bits m ^^^ BitVec.ofInt k.bits n).toNat)
  | _ => none
theorem x_ari {op : BinOp} {x y : Operand} {t u : TypeId} {k : IntKind} {m n v : Int} (hx : E x = .int k m) (hy : E y = .int k n)
    (hb : ariI op k m n = some v) :
    (execOp E ⟨d, .binOp op t x y u, ty, pos, af, g⟩).run P w = .ok (.value (.int k v)) w := (by
    cases op <;> simp only [ariI, Option.some.injEq, reduceCtorEq] at hb <;>
      first
        | (subst hb; simp [execOp, hx, hy, run_eqGuard, binOp, Op.intArith, Op.intBits]; done)
        | (split at hb; (cases hb); cases hb; simp [execOp, run_eqGuard, binOp, Op.intDiv, *]))
def shI (op : BinOp) (k : IntKind) (m n : Int) : Option Int :=
  if n < 0 then none else
  match op with
  | .shl => some (k.wrap (m * 2 ^ (min n.toNat k.bits)))
  | .shr => some (m.fdiv (2 ^ (min n.toNat k.bits)))
  | _ => none
theorem run_eqGuard_sh {op : BinOp} {t : TypeId} {x y : Operand} {a b : Value} (h : op = .shl ∨ op = .shr) : (eqGuard op t x y a b).run P w = .ok () w := by
  unfold eqGuard
  rcases h with rfl | rfl <;> rfl
theorem x_shift {op : BinOp} {x y : Operand} {t u : TypeId} {k k' : IntKind} {m n v : Int} (hx : E x = .int k m) (hy : E y = .int k' n)
    (hb : shI op k m n = some v) :
    (execOp E ⟨d, .binOp op t x y u, ty, pos, af, g⟩).run P w = .ok (.value (.int k v)) w := (by
    unfold shI at hb
    split at hb
    · cases hb
    · cases op <;> simp only [Option.some.injEq, reduceCtorEq] at hb <;> subst hb <;> simp [execOp, run_eqGuard, binOp, Op.shift, *])
theorem x_neg {x : Operand} {t : TypeId} {k : IntKind} {m v : Int} (hx : E x = .int k m) (hb : ariI .sub k 0 m = some v) :
    (execOp E ⟨d, .unOp .neg t x, ty, pos, af, g⟩).run P w = .ok (.value (.int k v)) w := (by simp only [ariI, Option.some.injEq] at hb; subst hb; simp [execOp, hx, Op.unary, Op.intArith])
theorem run_equalIn_bool (n : Nat) (w : World) {t : TypeId} (ht : ∀ w, (underlying t).run P w = .ok .bool w) (x y : Bool) : (Op.equalIn (n + 1) t (.bool x) (.bool y)).run P w = .ok (x == y) w := by
  simp [Op.equalIn, ht]
/-- == and != of bools -/
theorem x_cmpB {op : BinOp} {x y : Operand} {t u : TypeId} {m n b : Bool} (ht : ∀ w, (underlying t).run P w = .ok .bool w) (hx : E x = .bool m) (hy : E y = .bool n)
    (hb : (match op with | .eql => some (m == n) | .neq => some (!(m == n)) | _ => none) = some b) :
    (execOp E ⟨d, .binOp op t x y u, ty, pos, af, g⟩).run P w = .ok (.value (.bool b)) w := (by
    have he : ∀ w, (Op.equal t (.bool m) (.bool n)).run P w = .ok (m == n) w := fun w => run_equalIn_bool 9999 w ht m n
    have hq : ∀ w, (eqGuard op t x y (.bool m) (.bool n)).run P w = .ok () w := fun w => by unfold eqGuard; split <;> rfl
    cases op <;> simp only [Option.some.injEq, reduceCtorEq] at hb <;> subst hb <;>
      simp only [execOp, hx, hy, Sem.run_bind, hq, Result.andThen, binOp, he] <;> rfl)
theorem x_conv {x : Operand} {s t : TypeId} {k k' : IntKind} {ds' : TypeDesc} {m v : Int} (hs : ∀ w, (underlying s).run P w = .ok ds' w) (ht : ∀ w, (underlying t).run P w = .ok (.int k) w)
    (hx : E x = .int k' m) (hv : k.wrap m = v) :
    (execOp E ⟨d, .convert s t x, ty, pos, af, g⟩).run P w = .ok (.value (.int k v)) w := (by subst hv; simp [execOp, hx, convert, hs, ht, Conv.intToInt])
/-! memory -/
theorem addr_add (b off n : Nat) : (⟨b, off, none⟩ : Addr).add n = ⟨b, off + n, none⟩ := by
  unfold Addr.add; split
  · rename_i h; subst h; rfl
  · rfl
theorem run_loadCellsFrom {b off : Nat} {cs : Array Value} {t : TypeId} {fz : Nat × Nat} (hb : w.heap[b]? = some (.cells cs t fz)) :
    ∀ (n i : Nat) (acc : Array Value), off + i + n ≤ cs.size → (loadCellsFrom ⟨b, off, none⟩ i n acc).run P w = .ok (acc ++ ((cs.toList.drop (off + i)).take n).toArray) w
  | 0, i, acc, _ => by simp [loadCellsFrom]
  | n + 1, i, acc, h => by
    have hc : w.cell? ⟨b, off + i, none⟩ = some (cs[off + i]'(by omega)) := by rw [cell_of hb]; simp
    unfold loadCellsFrom
    simp only [Sem.run_bind, load, addr_add, Sem.run, hc, Result.andThen]
    rw [run_loadCellsFrom hb n (i + 1) _ (by omega)]
    congr 1
    rw [List.drop_eq_getElem_cons (i := off + i) (by simp; omega), List.take_succ_cons]
    simp [Nat.add_assoc]
theorem run_loadCells {b off n : Nat} {cs : Array Value} {t : TypeId} {fz : Nat × Nat} (hb : w.heap[b]? = some (.cells cs t fz)) (h : off + n ≤ cs.size) :
    (loadCells ⟨b, off, none⟩ n).run P w = .ok ((cs.toList.drop off).take n).toArray w := by
  unfold loadCells
  rw [run_loadCellsFrom hb n 0 #[] (by omega)]
  simp
theorem run_load {a : Addr} {v : Value} (h : w.cell? a = some v) : (load a).run P w = .ok v w := by
  simp [load, Sem.run, h]
theorem x_field {x : Operand} {T : TypeId} {i b off : Nat} {fs : Array Field} {f : Field} {n : Nat} (hu : ∀ w, (underlying T).run P w = .ok (.struct fs) w) (hf : fs[i]? = some f)
    (hn : ∀ w, (sizeOf f.type).run P w = .ok (n + 1) w) (hx : E x = .pointer (some ⟨b, off, none⟩)) :
    (execOp E ⟨d, .fieldAddr T x i, ty, pos, af, g⟩).run P w = .ok (.value (.pointer (some ⟨b, off + f.offset, none⟩))) w := (by
    simp [execOp, hx, Instr.fieldAt, hu, hf, Instr.sureAddr, fieldPlace, hn, addr_add])
/-- is a value one that fills one cell? -/
def one : Value → Bool
  | .agg _ | .tuple _ => false
  | _ => true
/-- cells from off on turned into vs -/
def upd (cs : List Value) (off : Nat) (vs : List Value) : List Value := cs.take off ++ vs ++ cs.drop (off + vs.length)
theorem upd_nil (cs : List Value) (off : Nat) : upd cs off [] = cs := by simp [upd]
theorem upd_length (cs : List Value) (off : Nat) (vs : List Value) (h : off + vs.length ≤ cs.length) : (upd cs off vs).length = cs.length := by
  simp [upd]; omega
theorem upd_cons (cs : List Value) (off : Nat) (v : Value) (vs : List Value) (h : off + (v :: vs).length ≤ cs.length) : upd (cs.set off v) (off + 1) vs = upd cs off (v :: vs) := by
  simp only [List.length_cons] at h
  unfold upd
  have e1 : (cs.set off v).take (off + 1) = cs.take off ++ [v] := by
    rw [List.take_succ_eq_append_getElem (by simp; omega), List.take_set_of_le (Nat.le_refl off)]
    simp
  have e2 : (cs.set off v).drop (off + 1 + vs.length) = cs.drop (off + (v :: vs).length) := by
    rw [List.drop_set_of_lt (by omega)]
    congr 1
    simp
    omega
  rw [e1, e2]
  simp
theorem run_store {b o : Nat} {cs : Array Value} {t : TypeId} {v : Value} {fz : Nat × Nat} (hb : w.heap[b]? = some (.cells cs t fz)) (hz : Thaw fz cs.size) (ho : o < cs.size) (hv : one v = true) :
    (store ⟨b, o, none⟩ v).run P w = .ok () (w.setCell ⟨b, o, none⟩ v) := by
  have hc : w.cell? ⟨b, o, none⟩ = some cs[o] := by rw [cell_of hb]; simp [ho]
  have hf : w.frozen? ⟨b, o, none⟩ = false := frozen_of hb hz ho
  cases v <;> first | (cases hv; done) | simp [store, Sem.run, hc, hf]
theorem run_storeCells {b : Nat} {t : TypeId} {fz : Nat × Nat} : ∀ (vs : List Value) (off i : Nat) (cs : Array Value) (w : World), w.heap[b]? = some (.cells cs t fz) → Thaw fz cs.size → off + i + vs.length ≤ cs.size → (∀ v ∈ vs, one v = true) →
    ∃ w', (storeCells ⟨b, off, none⟩ vs i).run P w = .ok () w' ∧ w'.heap[b]? = some (.cells (upd cs.toList (off + i) vs).toArray t fz) ∧ Kept (· = b) w w'
  | [], off, i, cs, w, hb, _, _, _ => ⟨w, by simp [storeCells], by rw [upd_nil]; exact hb, Kept.refl _ _⟩
  | v :: vs, off, i, cs, w, hb, hz, hl, hv => by
    have h1 := run_store (P := P) (o := off + i) hb hz (by simp at hl; omega) (hv v (by simp))
    have e1 := setCell_turned hb (off + i) v
    have hb' : (w.setCell ⟨b, off + i, none⟩ v).heap[b]? = some (.cells (cs.setIfInBounds (off + i) v) t fz) := by rw [e1]; exact turned_block _ hb
    obtain ⟨w', h2, h3, h4⟩ := run_storeCells vs off (i + 1) _ _ hb' (by simpa using hz) (by simp at hl ⊢; omega) (fun u hu => hv u (by simp [hu]))
    refine ⟨w', ?_, ?_, ?_⟩
    · unfold storeCells
      simp only [Sem.run_bind, addr_add, h1, Result.andThen]
      exact h2
    · rw [h3]
      congr 2
      rw [Array.toList_setIfInBounds, show off + (i + 1) = (off + i) + 1 from by omega, upd_cons _ _ _ _ (by simpa using hl)]
    · refine Kept.trans ?_ h4
      rw [e1]; exact kept_turned _ _ _
/-! strings, as lists of bytes -/
def str (s : List UInt8) : Value := .string ⟨s.toArray⟩
theorem x_builtin {b : Builtin} {xs : Array Operand} {ts : Array TypeId} {t : TypeId} {args : List Value} {v : Value} {w' : World} (ha : xs.toList.map E = args)
    (hr : (builtin b ts t (xs.map fun | .const _ => true | _ => false) args.toArray).run P w = .ok (.value v) w') :
    (execOp E ⟨d, .call ⟨.builtin b, xs, ts⟩, t, pos, af, g⟩).run P w = .ok (.value v) w' := by
  have e1 : xs.map E = args.toArray := by apply Array.toList_inj.1; simp [← ha]
  unfold execOp resolve
  simp only [Sem.run_bind, Sem.run_pure, Result.andThen, invoke, e1]
  exact hr
theorem x_lenS {x : Operand} {t u : TypeId} {s : List UInt8} (hu : ∀ w, (underlying u).run P w = .ok .string w) (hx : E x = str s) :
    (execOp E ⟨d, .call ⟨.builtin .len, #[x], #[u]⟩, t, pos, af, g⟩).run P w = .ok (.value (.int .i64 s.length)) w :=
  x_builtin rfl (by
    simp only [builtin, Builtin.len_, List.map_cons, List.map_nil, hx, str]
    simp only [List.getElem?_toArray, List.getElem?_cons_zero, Sem.run_bind, hu, Result.andThen, Sem.run_pure]
    rfl)
theorem x_lenSl {x : Operand} {t u e : TypeId} {p : Option Addr} {n c : Nat} (hu : ∀ w, (underlying u).run P w = .ok (.slice e) w) (hx : E x = .slice p n c) :
    (execOp E ⟨d, .call ⟨.builtin .len, #[x], #[u]⟩, t, pos, af, g⟩).run P w = .ok (.value (.int .i64 n)) w :=
  x_builtin rfl (by
    simp only [builtin, Builtin.len_, List.map_cons, List.map_nil, hx]
    simp only [List.getElem?_toArray, List.getElem?_cons_zero, Sem.run_bind, hu, Result.andThen, Sem.run_pure]
    rfl)
theorem x_min {x y : Operand} {t : TypeId} {ts : Array TypeId} {k : IntKind} {m n v : Int} (hx : E x = .int k m) (hy : E y = .int k n) (hv : (if n < m then n else m) = v) :
    (execOp E ⟨d, .call ⟨.builtin .min, #[x, y], ts⟩, t, pos, af, g⟩).run P w = .ok (.value (.int k v)) w :=
  x_builtin rfl (by
    subst hv
    simp [builtin, Builtin.min_, Builtin.min2, hx, hy])
theorem x_max {x y : Operand} {t : TypeId} {ts : Array TypeId} {k : IntKind} {m n v : Int} (hx : E x = .int k m) (hy : E y = .int k n) (hv : (if n > m then n else m) = v) :
    (execOp E ⟨d, .call ⟨.builtin .max, #[x, y], ts⟩, t, pos, af, g⟩).run P w = .ok (.value (.int k v)) w :=
  x_builtin rfl (by
    subst hv
    simp [builtin, Builtin.max_, Builtin.max2, hx, hy])
theorem x_max3 {x y z : Operand} {t : TypeId} {ts : Array TypeId} {k : IntKind} {m n r v : Int} (hx : E x = .int k m) (hy : E y = .int k n) (hz : E z = .int k r) (hv : (if r > (if n > m then n else m) then r else (if n > m then n else m)) = v) :
    (execOp E ⟨d, .call ⟨.builtin .max, #[x, y, z], ts⟩, t, pos, af, g⟩).run P w = .ok (.value (.int k v)) w :=
  x_builtin rfl (by
    subst hv
    simp [builtin, Builtin.max_, Builtin.max2, hx, hy, hz])
theorem x_build {T : TypeId} {parts : Array (Nat × Operand)} {ps : List (Nat × Value)} {v : Value} (hp : parts.toList.map (fun p => (p.1, E p.2)) = ps) (hr : ∀ w, (Instr.build T ps.toArray).run P w = .ok v w) :
    (execOp E ⟨d, .build T parts, ty, pos, af, g⟩).run P w = .ok (.value v) w := by
  have e1 : parts.map (fun (i, x) => (i, E x)) = ps.toArray := by apply Array.toList_inj.1; simp [← hp]
  simp only [execOp, e1]
  simp [hr]
/-- 's[i]' -/
theorem x_indexS {x y : Operand} {T : TypeId} {s : List UInt8} {k : IntKind} {i : Nat} {b : UInt8} (hu : ∀ w, (underlying T).run P w = .ok .string w) (hx : E x = str s) (hy : E y = .int k i) (hb : s[i]? = some b) :
    (execOp E ⟨d, .index T x y, ty, pos, af, g⟩).run P w = .ok (.value (.int .u8 b.toNat)) w := by
  obtain ⟨hi, rfl⟩ := List.getElem?_eq_some_iff.1 hb
  have h1 : (0 : Int) ≤ i := by omega
  have h2 : (⟨s.toArray⟩ : ByteArray)[i]? = some s[i] := by
    rw [getElem?_pos (⟨s.toArray⟩ : ByteArray) i (show i < s.toArray.size by simpa using hi)]; rfl
  simp [execOp, Instr.index, hx, hy, str, asIntOf, hu, h2]
/-- 's[lo:hi]' of a string -/
theorem x_sliceS {x : Operand} {T : TypeId} {s : List UInt8} {lo hi : Option Operand} {a b : Nat} (hu : ∀ w, (underlying T).run P w = .ok .string w) (hx : E x = str s)
    (hlo : (match lo with | some y => ∃ k, E y = .int k a | none => a = 0)) (hhi : (match hi with | some y => ∃ k, E y = .int k b | none => b = s.length)) (hab : a ≤ b) (hb : b ≤ s.length) :
    (execOp E ⟨d, .slice T x lo hi none, ty, pos, af, g⟩).run P w = .ok (.value (str ((s.take b).drop a))) w := by
  have e1 : (⟨s.toArray⟩ : ByteArray).extract a b = ⟨((s.take b).drop a).toArray⟩ := by
    apply ByteArray.ext; simp [ByteArray.data_extract, List.drop_take]
  have hsz : (⟨s.toArray⟩ : ByteArray).size = s.length := rfl
  cases lo with
  | none =>
    simp only at hlo
    subst hlo
    cases hi with
    | none =>
      simp only at hhi
      subst hhi
      simp [execOp, Instr.sliceAt, Instr.slice, Instr.sliceBounds, hx, str, hu]
    | some y =>
      obtain ⟨k, hk⟩ := hhi
      simp [execOp, Instr.sliceAt, Instr.slice, Instr.sliceBounds, Instr.sliceBound, asIntOf, hx, hk, str, hu, hsz, hb, e1]
  | some z =>
    obtain ⟨k', hk'⟩ := hlo
    cases hi with
    | none =>
      simp only at hhi
      subst hhi
      simp [execOp, Instr.sliceAt, Instr.slice, Instr.sliceBounds, Instr.sliceBound, asIntOf, hx, hk', str, hu, hsz, hab, e1]
    | some y =>
      obtain ⟨k, hk⟩ := hhi
      simp [execOp, Instr.sliceAt, Instr.slice, Instr.sliceBounds, Instr.sliceBound, asIntOf, hx, hk, hk', str, hu, hsz, hab, hb, e1]
end Go.Proofs.YtikjigkkhdkibaaGreatDoor.W

/- Symbolic values, and what the pure operations make of them. Over any program. -/
namespace Go.Proofs.YtikjigkkhdkibaaGreatDoor.W
open Go.RowKit
/-- a symbolic value -/
inductive SV where
  | int (k : IntKind) (e : Int)
  | bool (b : Bool)
  | str (s : List UInt8)
  | undef
  | own (i b off : Nat)
  | vec (i : Nat) (p : Option Addr) (n c : Nat)
  | vel (i b e k o : Nat)
  | elp (p : Option Addr) (n c e k o : Nat)
  | agg (l : List SV)
  | tup (l : List SV)
  | iface (t : TypeId) (v : SV)
  | fn (f : FuncId) (fs cs : List SV)
  | yld (l : Nat)
  | mp (i b : Nat)
  | raw (v : Value)
/-- a place in a row -/
def ptrAt (p : Option Addr) (j : Nat) : Value := .pointer (p.map (·.add j))
mutual
def SV.den : SV → Value
  | .int k e => .int k e
  | .bool b => .bool b
  | .str s => W.str s
  | .undef => Go.undef
  | .own _ b off => .pointer (some ⟨b, off, none⟩)
  | .vec _ p n c => .slice p n c
  | .vel _ b e k o => .pointer (some ⟨b, e * k + o, none⟩)
  | .elp p _ _ e k o => ptrAt p (e * k + o)
  | .agg l => .agg (dens l).toArray
  | .tup l => .tuple (dens l).toArray
  | .iface t v => .iface t v.den
  | .fn f fs cs => .func (.func f) (dens fs).toArray (dens cs).toArray
  | .yld l => .func (.yield l) #[] #[]
  | .mp _ b => .map (some b)
  | .raw v => v
  termination_by structural x => x
def dens : List SV → List Value
  | [] => []
  | v :: l => v.den :: dens l
  termination_by structural x => x
end
theorem dens_map (l : List SV) : dens l = l.map SV.den := by
  induction l with
  | nil => rfl
  | cons v l ih => simp [dens, ih]
theorem dens_length (l : List SV) : (dens l).length = l.length := by simp [dens_map]
theorem dens_append (l m : List SV) : dens (l ++ m) = dens l ++ dens m := by simp [dens_map]
def ofA : Value → SV
  | .int k n => .int k n
  | .bool b => .bool b
  | .string s => .str s.data.toList
  | v => .raw v
def ofV : Value → SV
  | .agg cs => .agg (cs.toList.map ofA)
  | v => ofA v
theorem den_ofA : (v : Value) → (ofA v).den = v
  | .bool _ => rfl | .int _ _ => rfl | .float _ _ => rfl | .complex _ _ _ => rfl | .string _ => rfl | .pointer _ => rfl | .slice _ _ _ => rfl | .map _ => rfl | .chan _ => rfl
  | .func _ _ _ => rfl | .nilFunc => rfl | .iface _ _ => rfl | .nilIface => rfl | .agg _ => rfl | .tuple _ => rfl
theorem dens_ofA (l : List Value) : dens (l.map ofA) = l := by
  induction l with
  | nil => rfl
  | cons v l ih => simp [dens, ih, den_ofA]
theorem den_ofV : (v : Value) → (ofV v).den = v
  | .bool _ => rfl | .int _ _ => rfl | .float _ _ => rfl | .complex _ _ _ => rfl | .string _ => rfl | .pointer _ => rfl | .slice _ _ _ => rfl | .map _ => rfl | .chan _ => rfl
  | .func _ _ _ => rfl | .nilFunc => rfl | .iface _ _ => rfl | .nilIface => rfl | .tuple _ => rfl
  | .agg cs => by simp [ofV, SV.den, dens_ofA]


/-! lists, made to the end before what is next goes on -/
/-- an array, as a list that shows itself -/
def arrK {α : Type _} (xs : Array α) (k : List α → Prop) : Prop := match xs with
  | ⟨l⟩ => k l
theorem arrK_eq {α : Type _} {xs : Array α} {k : List α → Prop} : arrK xs k = k xs.toList := rfl
def appK {α : Type _} : List α → List α → (List α → Prop) → Prop
  | [], m, k => k m
  | x :: l, m, k => appK l m fun r => k (x :: r)
theorem appK_eq {α : Type _} {l m : List α} {k : List α → Prop} : appK l m k = k (l ++ m) := by
  induction l generalizing k with
  | nil => rfl
  | cons x l ih => simp [appK, ih]
def setK {α : Type _} : List α → Nat → α → (List α → Prop) → Prop
  | [], _, _, k => k []
  | _ :: l, 0, y, k => k (y :: l)
  | x :: l, n + 1, y, k => setK l n y fun r => k (x :: r)
theorem setK_eq {α : Type _} {l : List α} {n : Nat} {y : α} {k : List α → Prop} : setK l n y k = k (l.set n y) := by
  induction l generalizing n k with
  | nil => rfl
  | cons x l ih => cases n <;> simp [setK, ih]
def takeK {α : Type _} : List α → Nat → (List α → Prop) → Prop
  | _, 0, k => k []
  | [], _ + 1, k => k []
  | x :: l, n + 1, k => takeK l n fun r => k (x :: r)
theorem takeK_eq {α : Type _} {l : List α} {n : Nat} {k : List α → Prop} : takeK l n k = k (l.take n) := by
  induction l generalizing n k with
  | nil => cases n <;> rfl
  | cons x l ih => cases n <;> simp [takeK, ih]
def dropK {α : Type _} : List α → Nat → (List α → Prop) → Prop
  | l, 0, k => k l
  | [], _ + 1, k => k []
  | _ :: l, n + 1, k => dropK l n k
theorem dropK_eq {α : Type _} {l : List α} {n : Nat} {k : List α → Prop} : dropK l n k = k (l.drop n) := by
  induction l generalizing n k with
  | nil => cases n <;> rfl
  | cons x l ih => cases n <;> simp [dropK, ih]
def addK : Nat → Nat → (Nat → Prop) → Prop
  | o, 0, k => k o
  | o, d + 1, k => addK (Nat.succ o) d k
theorem addK_eq {o d : Nat} {k : Nat → Prop} : addK o d k = k (o + d) := by
  induction d generalizing o with
  | zero => rfl
  | succ d ih => simp only [addK, ih]; congr 1; omega
def ofLK : List Value → (List SV → Prop) → Prop
  | [], k => k []
  | v :: l, k => ofLK l fun r => match v with
    | .int kd n => k (.int kd n :: r)
    | .bool b => k (.bool b :: r)
    | .string s => k (.str s.data.toList :: r)
    | v => k (.raw v :: r)
theorem ofLK_eq {l : List Value} {k : List SV → Prop} : ofLK l k = k (l.map ofA) := by
  induction l generalizing k with
  | nil => rfl
  | cons v l ih => cases v <;> simp [ofLK, ih] <;> rfl
def ofVK (v : Value) (k : SV → Prop) : Prop :=
  match v with
  | .int kd n => k (.int kd n)
  | .bool b => k (.bool b)
  | .string s => k (.str s.data.toList)
  | .agg cs => ofLK cs.toList fun l => k (.agg l)
  | v => k (.raw v)
theorem ofVK_eq {v : Value} {k : SV → Prop} : ofVK v k = k (ofV v) := by
  cases v <;> first | rfl | (simp only [ofVK, ofLK_eq]; rfl)

def cellsOf : SV → List SV
  | .agg l => l
  | .raw v => v.cells.toList.map ofA
  | v => [v]
def cellsK (v : SV) (k : List SV → Prop) : Prop :=
  match v with
  | .agg l => k l
  | .raw v => ofLK v.cells.toList k
  | v => k [v]
theorem cellsK_eq {v : SV} {k : List SV → Prop} : cellsK v k = k (cellsOf v) := by
  cases v <;> first | rfl | (simp only [cellsK, ofLK_eq]; rfl)
def updS (l : List SV) (o : Nat) (vs : List SV) : List SV := l.take o ++ vs ++ l.drop (o + vs.length)
def updK : List SV → Nat → List SV → (List SV → Prop) → Prop
  | l, 0, [], k => k l
  | _ :: l, 0, v :: vs, k => updK l 0 vs fun r => k (v :: r)
  | x :: l, o + 1, vs, k => updK l o vs fun r => k (x :: r)
  | [], _, _, _ => False
theorem updK_ok {l : List SV} {o : Nat} {vs : List SV} {k : List SV → Prop} (h : updK l o vs k) : k (updS l o vs) ∧ o + vs.length ≤ l.length := by
  induction l generalizing o vs k with
  | nil =>
    cases o with
    | zero => cases vs with
      | nil => exact ⟨h, by simp⟩
      | cons v vs => exact h.elim
    | succ o => cases vs <;> exact h.elim
  | cons x l ih =>
    cases o with
    | zero => cases vs with
      | nil => exact ⟨h, by simp⟩
      | cons v vs =>
        obtain ⟨h1, h2⟩ := ih (o := 0) (vs := vs) h
        refine ⟨?_, by simp at h2 ⊢; omega⟩
        simpa [updS] using h1
    | succ o =>
      have h' : updK l o vs fun r => k (x :: r) := by cases vs <;> exact h
      obtain ⟨h1, h2⟩ := ih h'
      refine ⟨?_, by simp; omega⟩
      rw [show updS (x :: l) (o + 1) vs = x :: updS l o vs from by simp [updS, show o + 1 + vs.length = o + vs.length + 1 from by omega]]
      exact h1

/-! ### the slots -/
abbrev Env := List (Nat × SV)
def lkp : Env → Nat → Option SV
  | [], _ => none
  | (t, v) :: r, k => match Nat.beq t k with
    | true => some v
    | false => lkp r k
def nth {α : Type _} : List α → Nat → Option α
  | [], _ => none
  | x :: _, 0 => some x
  | _ :: l, n + 1 => nth l n
theorem nth_eq {α : Type _} (l : List α) (n : Nat) : nth l n = l[n]? := by
  induction l generalizing n with
  | nil => rfl
  | cons x l ih => cases n with
    | zero => rfl
    | succ n => simp [nth, ih]
/-- what is to be shown, and what then -/
structure Ob (p q : Prop) : Prop where
  here : p
  next : q
/-- a test -/
structure BR (b : Bool) (x y : Prop) : Prop where
  t : b = true → x
  f : b = false → y
theorem BR.yes {x y : Prop} (h : x) : BR true x y := ⟨fun _ => h, nofun⟩
theorem BR.no {x y : Prop} (h : y) : BR false x y := ⟨nofun, fun _ => h⟩
/-- a number that comes to be kept in k's digits -/
structure AR (k : IntKind) (e : Int) (q : Int → Prop) : Prop where
  h : q (k.wrap e)
theorem AR.is {k : IntKind} {e r : Int} {q : Int → Prop} (h : k.wrap e = r) (hq : q r) : AR k e q := ⟨h ▸ hq⟩
theorem AR.i64 {e : Int} {q : Int → Prop} (h : -9223372036854775808 ≤ e ∧ e ≤ 9223372036854775807) (hq : q e) : AR .i64 e q := AR.is (IntWalk.i64_in _ h) hq
theorem AR.u64 {e : Int} {q : Int → Prop} (h : 0 ≤ e ∧ e ≤ 18446744073709551615) (hq : q e) : AR .u64 e q := AR.is (IntWalk.u64_in _ h) hq
theorem AR.u8 {e : Int} {q : Int → Prop} (h : 0 ≤ e ∧ e ≤ 255) (hq : q e) : AR .u8 e q := AR.is (IntWalk.u8_in _ h) hq
theorem AR.i32 {e : Int} {q : Int → Prop} (h : -2147483648 ≤ e ∧ e ≤ 2147483647) (hq : q e) : AR .i32 e q := AR.is (IntWalk.i32_in _ h) hq
/-- a number that is a place -/
structure Idx (e : Int) (q : Nat → Prop) : Prop where
  h0 : 0 ≤ e
  hq : q e.toNat
theorem Idx.nat {n : Nat} {q : Nat → Prop} (h : q n) : Idx (n : Int) q := ⟨by omega, by simpa using h⟩
theorem Idx.is {e : Int} {q : Nat → Prop} (n : Nat) (he : e = n) (h : q n) : Idx e q := he ▸ Idx.nat h

def evS (env : Env) (x : Operand) (k : SV → Prop) : Prop :=
  match x with
  | .tmp t => match lkp env t with
    | some v => k v
    | none => False
  | .const v => ofVK v k
  | .func f => k (.fn f [] [])
  | .global g => k (.raw (.pointer (some ⟨g, 0, none⟩)))
structure EvOk (E : Operand → Value) (env : Env) : Prop where
  tmp : ∀ t v, lkp env t = some v → E (.tmp t) = v.den
  const : ∀ v, E (.const v) = v
  glob : ∀ g, E (.global g) = .pointer (some ⟨g, 0, none⟩)
  func : ∀ f, E (.func f) = .func (.func f) #[] #[]
theorem evS_ok {E : Operand → Value} {env : Env} (he : EvOk E env) {x : Operand} {k : SV → Prop} (h : evS env x k) : ∃ v, E x = v.den ∧ k v := by
  cases x with
  | tmp t =>
    simp only [evS] at h
    split at h
    · rename_i v hv; exact ⟨v, he.tmp _ _ hv, h⟩
    · exact h.elim
  | const v =>
    have h1 : k (ofV v) := (ofVK_eq (v := v) (k := k)).mp h
    exact ⟨ofV v, by rw [den_ofV]; exact he.const v, h1⟩
  | func f => exact ⟨.fn f [] [], he.func f, h⟩
  | global g => exact ⟨.raw (.pointer (some ⟨g, 0, none⟩)), he.glob g, h⟩
noncomputable def evL (env : Env) (l : List Operand) : (List SV → Prop) → Prop :=
  List.rec (motive := fun _ => (List SV → Prop) → Prop) (fun k => k []) (fun x _ ih k => evS env x fun v => ih fun vs => k (v :: vs)) l
theorem evL_ok {E : Operand → Value} {env : Env} (he : EvOk E env) : ∀ {xs : List Operand} {k : List SV → Prop}, evL env xs k → ∃ vs, xs.map E = dens vs ∧ k vs
  | [], _, h => ⟨[], rfl, h⟩
  | x :: xs, k, h => by
    obtain ⟨v, hv, h⟩ := evS_ok he h
    obtain ⟨vs, hvs, h⟩ := evL_ok he h
    exact ⟨v :: vs, by simp [dens, hv, hvs], h⟩

/-! ### blocks and facts -/
def oneS : SV → Bool
  | .agg _ | .tup _ | .undef => false
  | .raw v => one v
  | _ => true
/-- an element fills k cells -/
def okE {α : Type} (enc : α → List SV) (k : Nat) (x : α) : Prop := (enc x).length = k ∧ (enc x).all oneS = true

/-- what an iterator yields at a place: some y, and what holds then -/
structure PubI : Type 1 where
  β : Type
  enc : β → List SV
  fs : β → Facts
  pr : β → Prop
/-- this one, and nothing more -/
def pubV (v : List SV) : PubI := ⟨Unit, fun _ => v, fun _ => [], fun _ => True⟩
def fixd (X : List (List SV)) : List PubI := X.map pubV
def plainX (xs : List PubI) : Prop := ∀ I ∈ xs, ∀ y, I.fs y = []
theorem fixd_plain (X : List (List SV)) : plainX (fixd X) := fun I hI y => by
  obtain ⟨v, _, rfl⟩ := List.mem_map.1 hI
  rfl
/-- what is known of a block -/
inductive OB : Type 1 where
  | cells (cs : List SV) (t : TypeId)
  | vec {α : Type} (enc : α → List SV) (k : Nat) (t : TypeId) (p : Option Addr) (n c : Nat) (L : List α)
  | obj (o : Obj)
  | map {κ : Type} (ek : κ → Value) (L : List (κ × SV))
  | seq (lp : Nat) (xs : List PubI) (s : Option Nat)
  | hole
abbrev LBs := List (Nat × OB)
def flat {α : Type} (enc : α → List SV) (L : List α) : List Value := L.flatMap fun x => dens (enc x)
def ent : Nat × OB → Ent
  | (b, .cells cs t) => ⟨b, True, (· = .cells (dens cs).toArray t (0, 0)), True⟩
  | (b, .vec enc k t p n c L) => ⟨b, c ≠ 0, fun o => ∃ (arr : Array Value) (fz : Nat × Nat), o = .cells arr t fz ∧ Thaw fz arr.size ∧ arr.size = c * k ∧ arr.toList.take (n * k) = flat enc L,
      L.length = n ∧ n ≤ c ∧ c ≤ 9223372036854775807 ∧ (∀ x ∈ L, okE enc k x) ∧ (c ≠ 0 → p = some ⟨b, 0, none⟩) ∧ (p = none → c = 0)⟩
  | (b, .obj o) => ⟨b, True, (· = o), True⟩
  | (b, .map ek L) => ⟨b, True, fun o => ∃ (es : Array MapEntry) (clock : Nat), o = .map es clock ∧ es.toList.map (fun e => (e.key, e.val)) = L.map (fun x => (ek x.1, x.2.den)) ∧ (es.toList.map (·.born)).Nodup ∧ ∀ e ∈ es.toList, e.born < clock, True⟩
  | (b, .seq _ _ _) => ⟨b, False, fun _ => True, True⟩
  | (b, .hole) => ⟨b, False, fun _ => True, True⟩
def sem (lb : LBs) : LB := lb.map ent
theorem sem_get {lb : LBs} {i : Nat} {e : Nat × OB} (h : nth lb i = some e) : (sem lb)[i]? = some (ent e) := by
  rw [nth_eq] at h
  simp [sem, h]
theorem sem_set (lb : LBs) (i : Nat) (e : Nat × OB) : sem (lb.set i e) = (sem lb).set i (ent e) := by simp [sem, List.map_set]
theorem sem_snoc (lb : LBs) (e : Nat × OB) : sem (lb ++ [e]) = sem lb ++ [ent e] := by simp [sem]
/-- a slice of n elements, k cells each, that holds these cells -/
structure Sl (A : Nat → Prop) (w : World) (k : Nat) (p : Option Addr) (n c : Nat) (C : List Value) : Prop where
  len : C.length = n * k
  cap : n ≤ c
  small : c ≤ 9223372036854775807
  isNil : p = none → c = 0
  at_ : n = 0 ∨ ∃ (b off : Nat) (cs : Array Value) (t : TypeId) (fz : Nat × Nat), p = some ⟨b, off, none⟩ ∧ A b ∧ w.heap[b]? = some (.cells cs t fz) ∧ off + n * k ≤ cs.size ∧ (cs.toList.drop off).take (n * k) = C
theorem Sl.kp {A A' : Nat → Prop} {w w' : World} {k n c : Nat} {p : Option Addr} {C : List Value} (h : Sl A w k p n c C) (t : KP A w A' w') : Sl A' w' k p n c C := by
  refine ⟨h.len, h.cap, h.small, h.isNil, ?_⟩
  rcases h.at_ with h0 | ⟨b, off, cs, ty, fz, h1, h2, h3, h4, h5⟩
  · exact .inl h0
  · obtain ⟨t1, t2⟩ := t b (lt_of_some h3) h2
    exact .inr ⟨b, off, cs, ty, fz, h1, t1, t2.trans h3, h4, h5⟩
theorem Sl.nil (A : Nat → Prop) (w : World) (k : Nat) : Sl A w k none 0 0 [] := ⟨by simp, Nat.le_refl _, by omega, fun _ => rfl, .inl rfl⟩
/-- the address of an element, and what lies there -/
theorem Sl.cell {A : Nat → Prop} {w : World} {k n c : Nat} {p : Option Addr} {C : List Value} (h : Sl A w k p n c C) {i : Nat} (hi : i < n) :
    ∃ b off cs t fz, p = some ⟨b, off, none⟩ ∧ w.heap[b]? = some (.cells cs t fz) ∧ off + i * k + k ≤ cs.size ∧ (cs.toList.drop (off + i * k)).take k = (C.drop (i * k)).take k ∧ A b := by
  rcases h.at_ with h0 | ⟨b, off, cs, t, fz, h1, h2, h3, h4, h5⟩
  · omega
  · have hb : i * k + k ≤ n * k := by
      calc i * k + k = (i + 1) * k := by rw [Nat.succ_mul]
        _ ≤ n * k := Nat.mul_le_mul_right _ hi
    refine ⟨b, off, cs, t, fz, h1, h3, by omega, ?_, h2⟩
    rw [← h5, List.drop_take, List.take_take, List.drop_drop, Nat.min_eq_left (by omega)]
theorem flat_length {α : Type} {enc : α → List SV} {k : Nat} {L : List α} (h : ∀ x ∈ L, (enc x).length = k) : (flat enc L).length = L.length * k := by
  induction L with
  | nil => simp [flat]
  | cons x L ih =>
    have := ih fun y hy => h y (by simp [hy])
    simp only [flat, List.flatMap_cons, List.length_append, List.length_cons, dens_length, h x (by simp)] at this ⊢
    rw [this, Nat.succ_mul]; omega
theorem flat_get {α : Type} {enc : α → List SV} {k : Nat} {L : List α} (h : ∀ x ∈ L, (enc x).length = k) {i : Nat} {x : α} (hx : L[i]? = some x) : ((flat enc L).drop (i * k)).take k = dens (enc x) := by
  induction L generalizing i with
  | nil => cases hx
  | cons y L ih =>
    have hy : (dens (enc y)).length = k := by rw [dens_length, h y (by simp)]
    cases i with
    | zero =>
      simp at hx
      subst hx
      simp [flat, ← hy]
    | succ i =>
      have := ih (fun z hz => h z (by simp [hz])) (i := i) (by simpa using hx)
      simp only [flat, List.flatMap_cons] at this ⊢
      rw [← this, Nat.succ_mul, Nat.add_comm, ← List.drop_drop, List.drop_left' hy]
/-- a slice that nobody turns -/
def slF {α : Type} (enc : α → List SV) (k : Nat) (p : Option Addr) (n c : Nat) (L : List α) : Fact :=
  ⟨fun A w => (∀ x ∈ L, okE enc k x) ∧ L.length = n ∧ Sl A w k p n c (flat enc L), fun _ _ _ _ t h => ⟨h.1, h.2.1, h.2.2.kp t⟩⟩
/-- a block that nobody turns -/
def blkF (b : Nat) (cs : List SV) (t : TypeId) : Fact :=
  ⟨fun A w => A b ∧ w.heap[b]? = some (.cells (dens cs).toArray t (0, 0)), fun _ _ _ _ t h => ⟨(t b (lt_of_some h.2) h.1).1, (t b (lt_of_some h.2) h.1).2.trans h.2⟩⟩
/-- a call of yield: it hands back b -/
def YR (P : Program) (lp : Nat) (args : Array Value) (W : World) (R : Bool → World → Prop) : Prop :=
  ∃ fn tmps assign body, (Instr.yield lp args).run P W = .ok (.round lp fn tmps assign body) W ∧
    RoundIn (FW none) 0 P lp fn tmps assign body W fun e W' => ∃ b, e = .returned (.bool b) ∧ R b W'
/-- one round of whom one yields to -/
def Step (P : Program) (ω : Amb) (lp : Nat) (xs : List PubI) : Prop :=
  ∀ (n : Nat) (Mu : Foot) (W : World) (I : PubI) (y : I.β), xs[n]? = some I → I.pr y → ω.Z (some n) Mu W → Hold (I.fs y) (fun b => ¬ Mu.1 b ∧ Mu.2 b ∧ ω.N b) W → YR P lp (dens (I.enc y)).toArray W fun b W' =>
    ∃ Mu' : Foot, (∀ b, Mu'.1 b → Mu.1 b ∨ W.heap.size ≤ b) ∧ (∀ b, Mu'.2 b → (Mu.1 b ∨ Mu.2 b) ∨ W.heap.size ≤ b) ∧ (∀ b, Mu'.1 b ∨ Mu'.2 b → b < W'.heap.size) ∧ Kept Mu.1 W W' ∧ ω.Z (if b then some (n + 1) else none) Mu' W'
/-- what is known where the call stands -/
structure Rel (P : Program) (lb : LBs) (Φ : Facts) (ω : Amb) (w : World) : Prop where
  st : St ω.M ω.w0 (sem lb) w
  hold : Hold Φ (ω.In (sem lb)) w
  mu : ∀ b, ω.Mu.1 b ∨ ω.Mu.2 b → b < w.heap.size ∧ Off (sem lb) b
  muM : (∀ b, ω.Mu.1 b → ω.M b ∨ ω.w0.heap.size ≤ b) ∧ ∀ b, ω.Mu.1 b ∨ ω.Mu.2 b → ω.G b ∨ ω.w0.heap.size ≤ b
  amb : ∀ b lp xs s, nth lb 0 = some (b, .seq lp xs s) → ω.Z s ω.Mu w ∧ Step P ω lp xs ∧ (plainX xs ∨ ω.free)
theorem Rel.call {P : Program} {lb : LBs} {Φ : Facts} {ω : Amb} {w w' : World} (h : Rel P lb Φ ω w) (hk : Kept No w w') : Rel P lb Φ ω w' :=
  ⟨h.st.call hk, h.hold.kp (KP.call hk), fun b hb => ⟨Nat.lt_of_lt_of_le (h.mu b hb).1 hk.size, (h.mu b hb).2⟩, h.muM, fun b lp xs s hi => ⟨ω.stb _ _ _ _ (h.amb b lp xs s hi).1 (hk.weaken fun _ _ h => h.elim), (h.amb b lp xs s hi).2⟩⟩
/-- blocks turned into others, ambient as it was -/
theorem Rel.move {P : Program} {lb lb' : LBs} {Φ Ψ : Facts} {ω : Amb} {w w' : World} (h : Rel P lb Φ ω w) (hs : St ω.M ω.w0 (sem lb') w') (hh : Hold Ψ (ω.In (sem lb')) w') (ht : Tr (sem lb) w (sem lb') w') (hk : Kept (fun b => ¬ ω.Mu.1 b ∧ ¬ ω.Mu.2 b) w w')
    (hseq : ∀ b lp xs s, nth lb' 0 = some (b, .seq lp xs s) → nth lb 0 = some (b, .seq lp xs s)) : Rel P lb' Ψ ω w' :=
  ⟨hs, hh, fun b hb => ⟨Nat.lt_of_lt_of_le (h.mu b hb).1 ht.size, (ht.keep b (h.mu b hb).1 (h.mu b hb).2).1⟩, h.muM, fun b lp xs s hi => by
    have hi' := hseq b lp xs s hi
    exact ⟨ω.stb _ _ _ _ (h.amb _ _ _ _ hi').1 hk, (h.amb _ _ _ _ hi').2⟩⟩
/-- a slice that is read -/
structure RdE (Φ : Facts) (p : Option Addr) (n c k e : Nat) (q : List SV → Prop) : Prop where
  h : ∃ (α : Type) (enc : α → List SV) (L : List α), slF enc k p n c L ∈ Φ ∧ e < n ∧ ∀ x, L[e]? = some x → q (enc x)
theorem RdE.mk' {Φ : Facts} {p : Option Addr} {n c k e : Nat} {q : List SV → Prop} {α : Type} {enc : α → List SV} {L : List α} (hm : slF enc k p n c L ∈ Φ) (he : e < n) (hq : ∀ x, L[e]? = some x → q (enc x)) : RdE Φ p n c k e q := ⟨_, _, _, hm, he, hq⟩
/-- a slice that is there -/
structure HasP (Φ : Facts) (p : Option Addr) (n c k : Nat) (q : Prop) : Prop where
  h : ∃ (α : Type) (enc : α → List SV) (L : List α), slF enc k p n c L ∈ Φ
  next : q
theorem HasP.mk' {Φ : Facts} {p : Option Addr} {n c k : Nat} {q : Prop} {α : Type} {enc : α → List SV} {L : List α} (hm : slF enc k p n c L ∈ Φ) (hq : q) : HasP Φ p n c k q := ⟨⟨_, _, _, hm⟩, hq⟩
/-- a block that is read -/
structure RdB (Φ : Facts) (b : Nat) (q : List SV → Prop) : Prop where
  h : ∃ cs t, blkF b cs t ∈ Φ ∧ q cs
theorem RdB.mk' {Φ : Facts} {b : Nat} {q : List SV → Prop} {cs : List SV} {t : TypeId} (hm : blkF b cs t ∈ Φ) (hq : q cs) : RdB Φ b q := ⟨_, _, hm, hq⟩
/-- a part of a slice -/
structure SlW (Φ : Facts) (p : Option Addr) (n c k a b m : Nat) (q : SV → Facts → Prop) : Prop where
  h : ∃ (α : Type) (enc : α → List SV) (L : List α), slF enc k p n c L ∈ Φ ∧ a ≤ b ∧ b ≤ n ∧ (b ≤ m ∨ m = c) ∧ (m ≤ c ∨ m ≤ n) ∧ ∀ p', q (.raw (.slice p' (b - a) (m - a))) [slF enc k p' (b - a) (m - a) ((L.take b).drop a)]
theorem SlW.mk' {Φ : Facts} {p : Option Addr} {n c k a b m : Nat} {q : SV → Facts → Prop} {α : Type} {enc : α → List SV} {L : List α} (hm : slF enc k p n c L ∈ Φ) (hb : a ≤ b ∧ b ≤ n ∧ (b ≤ m ∨ m = c) ∧ (m ≤ c ∨ m ≤ n))
    (hq : ∀ p', q (.raw (.slice p' (b - a) (m - a))) [slF enc k p' (b - a) (m - a) ((L.take b).drop a)]) : SlW Φ p n c k a b m q := ⟨_, _, _, hm, hb.1, hb.2.1, hb.2.2.1, hb.2.2.2, hq⟩
end Go.Proofs.YtikjigkkhdkibaaGreatDoor.W

/- The pure operations: what each makes of symbolic values, and that it is so. Over any program. -/
namespace Go.Proofs.YtikjigkkhdkibaaGreatDoor.W
open Go.RowKit
section
variable (P : Program)
def isAggD : TypeDesc → Bool
  | .struct _ | .array _ _ => true
  | _ => false
/-- a number of cells, as a part of so many -/
def cut (l : List SV) (o n : Nat) (q : List SV → Prop) : Prop :=
  match Nat.ble (o + n) l.length with
  | true => dropK l o fun l => takeK l n q
  | false => False
/-- a variable of type T at cell o of these -/
def readAt (T : TypeId) (l : List SV) (o : Nat) (q : SV → Prop) : Prop :=
  match P.info? T, P.underlying T with
  | some i, some d => match isAggD d with
    | true => cut l o i.size fun m => q (.agg m)
    | false => match nth l o with
      | some v => q v
      | none => False
  | _, _ => False
def fieldOff (T : TypeId) (i : Nat) (q : Nat → Prop) : Prop :=
  match P.underlying T with
  | some (.struct fs) => match nth fs.toList i with
    | some f => match P.info? f.type with
      | some inf => match inf.size with
        | 0 => False
        | _ + 1 => q f.offset
      | none => False
    | none => False
  | _ => False
def elemSize (T : TypeId) (q : Nat → Prop) : Prop :=
  match P.underlying T with
  | some (.slice e) => match P.info? e with
    | some i => q i.size
    | none => False
  | _ => False
def isSh (op : BinOp) : Bool :=
  match op with
  | .shl | .shr => true
  | _ => false
def binI (op : BinOp) (k : IntKind) (m n : Int) (q : SV → Prop) : Prop :=
  match op with
  | .add => AR k (m + n) fun e => q (.int k e)
  | .sub => AR k (m - n) fun e => q (.int k e)
  | .mul => AR k (m * n) fun e => q (.int k e)
  | .quo => Ob (n ≠ 0) (AR k (m.tdiv n) fun e => q (.int k e))
  | .rem => Ob (n ≠ 0) (q (.int k (m.tmod n)))
  | .and => AR k (BitVec.ofInt k.bits m &&& BitVec.ofInt k.bits n).toNat fun e => q (.int k e)
  | .or => AR k (BitVec.ofInt k.bits m ||| BitVec.ofInt k.bits n).toNat fun e => q (.int k e)
  | .xor => AR k (BitVec.ofInt k.bits m ^^^ BitVec.ofInt k.bits n).toNat fun e => q (.int k e)
  | .shl => Ob (0 ≤ n) (AR k (m * 2 ^ (min n.toNat k.bits)) fun e => q (.int k e))
  | .shr => Ob (0 ≤ n) (q (.int k (m.fdiv (2 ^ (min n.toNat k.bits)))))
  | .eql => q (.bool (m == n))
  | .neq => q (.bool (m != n))
  | .lss => q (.bool (decide (m < n)))
  | .leq => q (.bool (decide (m ≤ n)))
  | .gtr => q (.bool (decide (m > n)))
  | .geq => q (.bool (decide (m ≥ n)))
  | _ => False
/-- how an interface value stands to nil -/
def nilEq (op : BinOp) (isNil : Bool) (q : SV → Prop) : Prop :=
  match op with
  | .eql => q (.bool isNil)
  | .neq => q (.bool (!isNil))
  | _ => False
def isC : Operand → Bool
  | .const _ => true
  | _ => false
/-- a comparison of whatever else -/
structure BinS (Φ : Facts) (c : Bool) (op : BinOp) (t : TypeId) (x y : SV) (q : SV → Prop) : Prop where
  h : ∃ v, q v ∧ ∀ (E : Operand → Value) (d : Option Tmp) (ty : TypeId) (pos : String) (af : Array Edge) (g : Option (Nat × Bool)) (xo yo : Operand) (u : TypeId) (A : Nat → Prop) (w : World), Hold Φ A w → E xo = x.den → E yo = y.den → (isC xo || isC yo) = c →
    (execOp E ⟨d, .binOp op t xo yo u, ty, pos, af, g⟩).run P w = .ok (.value v.den) w
def bin (Φ : Facts) (c : Bool) (op : BinOp) (t : TypeId) (x y : SV) (q : SV → Prop) : Prop :=
  match x, y with
  | .int k m, .int k' n => match isSh op || decide (k = k') with
    | true => binI op k m n q
    | false => False
  | .str a, .str b => match op with
    | .add => Ob (a.length + b.length ≤ 9223372036854775807) (q (.str (a ++ b)))
    | .lss => q (.bool (Op.bytesLess a b))
    | .geq => q (.bool (!Op.bytesLess a b))
    | .leq => q (.bool (Op.bytesLess a b || decide (a = b)))
    | .gtr => q (.bool (!(Op.bytesLess a b || decide (a = b))))
    | op => nilEq op (decide (a = b)) q
  | .bool a, .bool b => match P.underlying t with
    | some .bool => nilEq op (a == b) q
    | _ => False
  | .iface _ _, .raw .nilIface => match P.underlying t with
    | some (.interface _) => nilEq op false q
    | _ => False
  | .raw .nilIface, .raw .nilIface => match P.underlying t, c with
    | some (.interface _), true => nilEq op true q
    | _, _ => False
  | .raw (.pointer none), .raw (.pointer none) => match P.underlying t with
    | some (.pointer _) => nilEq op true q
    | _ => False
  | .own _ _ _, .raw (.pointer none) => match P.underlying t with
    | some (.pointer _) => nilEq op false q
    | _ => False
  | .raw (.pointer (some _)), .raw (.pointer none) => match P.underlying t with
    | some (.pointer _) => nilEq op false q
    | _ => False
  | .own _ b o, .own _ b' o' => match P.underlying t with
    | some (.pointer e) => match P.info? e with
      | some i => match i.size with
        | 0 => False
        | _ + 1 => Ob (b = b' ∧ o = o') (nilEq op true q)
      | none => False
    | _ => False
  | _, _ => BinS P Φ c op t x y q
/-- a bound of a slice -/
def bnd (env : Env) (x : Option Operand) (dflt : Nat) (q : Nat → Prop) : Prop :=
  match x with
  | none => q dflt
  | some x => evS env x fun v => match v with
    | .int _ e => Idx e q
    | _ => False
/-- a struct, made of its parts -/
noncomputable def buildK (fs : List Field) (env : Env) (l : List (Nat × Operand)) : List SV → (List SV → Prop) → Prop :=
  List.rec (motive := fun _ => List SV → (List SV → Prop) → Prop) (fun cs k => k cs) (fun p _ ih cs k => evS env p.2 fun v => match nth fs p.1 with
    | some f => match P.info? f.type with
      | some inf => cellsK v fun vs => match Nat.beq vs.length inf.size with
        | true => updK cs f.offset vs fun cs => ih cs k
        | false => False
      | none => False
    | none => False) l
/-- are all these methods there? -/
def hasAll (want : Array (String × TypeId)) (got : Array Method) : Bool := want.toList.all fun p => got.any fun m => m.name == p.1 && m.sig == p.2
theorem least_cons {a : String} {l : List String} : ∃ m, Instr.least (a :: l) = some m := ⟨_, rfl⟩
theorem missing_isNone (want : Array (String × TypeId)) (got : Array Method) : (Instr.missingMethod want got).isNone = hasAll want got := by
  obtain ⟨l, hl⟩ : ∃ l, l = (want.toList.filter fun (p : String × TypeId) => !got.any fun m => m.name == p.1 && m.sig == p.2).map (·.1) := ⟨_, rfl⟩
  have e : Instr.missingMethod want got = (Instr.least (l.partition (·.contains '.')).2 <|> Instr.least ((l.partition (·.contains '.')).1.map fun id => (id.splitOn ".").getLastD id)) := by rw [hl]; rfl
  have h2 : hasAll want got = l.isEmpty := by
    rw [hl, hasAll, List.isEmpty_map, Bool.eq_iff_iff, List.isEmpty_iff, List.filter_eq_nil_iff, List.all_eq_true]
    simp
  rw [e, h2]
  cases l with
  | nil => rfl
  | cons a l =>
    simp only [List.partition_eq_filter_filter]
    by_cases ha : a.contains '.' = true
    · obtain ⟨m, hm⟩ := @least_cons ((a.splitOn ".").getLastD a) ((l.filter (·.contains '.')).map fun id => (id.splitOn ".").getLastD id)
      rw [List.filter_cons_of_pos (p := fun x : String => x.contains '.') ha, List.map_cons, hm]
      cases Instr.least (List.filter (not ∘ fun x => x.contains '.') (a :: l)) <;> rfl
    · obtain ⟨m, hm⟩ := @least_cons a (l.filter (not ∘ (·.contains '.')))
      rw [List.filter_cons_of_pos (p := not ∘ _) (by simpa using ha), hm]
      rfl
/-- an assertion's results -/
def holdsK (ok : Bool) (v : SV) (q : SV → Prop) : Prop :=
  match ok with
  | true => q (.tup [v, .bool true])
  | false => q v
def failsK (ok : Bool) (t : TypeId) (q : SV → Prop) : Prop :=
  match ok, P.info? t with
  | true, some i => match i.zero with
    | some z => ofVK z fun v => q (.tup [v, .bool false])
    | none => False
  | _, _ => False
noncomputable def pv (env : Env) (lb : LBs) (Φ : Facts) (op : Op) (q : SV → Facts → Prop) : Prop :=
  match op with
  | .move x | .assign x => evS env x fun v => q v []
  | .pick c x y => evS env c fun c => match c with
    | .bool b => BR b (evS env x fun v => q v []) (evS env y fun v => q v [])
    | _ => False
  | .extract x i => evS env x fun v => match v with
    | .tup l => match nth l i with
      | some u => q u []
      | none => False
    | _ => False
  | .makeInterface t x => evS env x fun v => match P.underlying t with
    | some (.interface _) => False
    | some _ => q (.iface t v) []
    | none => False
  | .makeFunc (.func f) xs ys => arrK xs fun xs => arrK ys fun ys => evL env xs fun us => evL env ys fun vs => q (.fn f us vs) []
  | .unOp .not _ x => evS env x fun v => match v with
    | .bool b => q (.bool (!b)) []
    | _ => False
  | .unOp .neg _ x => evS env x fun v => match v with
    | .int k e => AR k (0 - e) fun r => q (.int k r) []
    | _ => False
  | .nilCheck x => evS env x fun v => match v with
    | .own i b o => q (.own i b o) []
    | .vel i b e k o => q (.vel i b e k o) []
    | .raw (.pointer (some a)) => q (.raw (.pointer (some a))) []
    | .fn f us vs => q (.fn f us vs) []
    | .iface t u => q (.iface t u) []
    | _ => False
  | .binOp op t x y _ => evS env x fun u => evS env y fun v => bin P Φ (isC x || isC y) op t u v fun r => q r []
  | .convert s t x => evS env x fun v => match v with
    | .int _ e => match P.underlying s, P.underlying t with
      | some _, some (.int k) => AR k e fun r => q (.int k r) []
      | _, _ => False
    | _ => False
  | .field T x i => evS env x fun v => match v with
    | .agg l => match P.underlying T with
      | some (.struct fs) => match nth fs.toList i with
        | some f => readAt P f.type l f.offset fun r => q r []
        | none => False
      | _ => False
    | _ => False
  | .fieldAddr T x i => evS env x fun v => fieldOff P T i fun d => match v with
    | .own i b o => addK o d fun o => q (.own i b o) []
    | .vel i b e k o => addK o d fun o => q (.vel i b e k o) []
    | .elp p n c e k o => HasP Φ p n c k (Ob (e < n) (addK o d fun o => q (.elp p n c e k o) []))
    | .raw (.pointer (some ⟨b, o, none⟩)) => addK o d fun o => q (.raw (.pointer (some ⟨b, o, none⟩))) []
    | _ => False
  | .load T x => evS env x fun v => match v with
    | .own i b o => match nth lb i with
      | some (b', .cells cs _) => Ob (b' = b) (readAt P T cs o fun r => q r [])
      | _ => False
    | .vel i b e k o => match nth lb i with
      | some (b', .vec enc k' _ _ n _ L) => Ob (b' = b ∧ k' = k ∧ e < n) (∀ x, L[e]? = some x → readAt P T (enc x) o fun r => q r [])
      | _ => False
    | .elp p n c e k o => RdE Φ p n c k e fun cs => readAt P T cs o fun r => q r []
    | .raw (.pointer (some ⟨b, o, none⟩)) => RdB Φ b fun cs => readAt P T cs o fun r => q r []
    | _ => False
  | .indexAddr T x y => evS env x fun v => evS env y fun i => match i with
    | .int _ e => Idx e fun j => elemSize P T fun k => match v with
      | .raw (.slice p n c) => HasP Φ p n c k (Ob (j < n) (q (.elp p n c j k 0) []))
      | .vec i p n c => match nth lb i with
        | some (b', .vec _ k' _ p' n' c' _) => Ob (p' = p ∧ n' = n ∧ c' = c ∧ k' = k ∧ j < n) (q (.vel i b' j k 0) [])
        | _ => False
      | _ => False
    | _ => False
  | .index T x y => evS env x fun v => evS env y fun i => match v, i with
    | .str s, .int _ e => match P.underlying T with
      | some .string => Idx e fun j => Ob (j < s.length) (∀ u, s[j]? = some u → (u.toNat : Int) ≤ 255 → q (.int .u8 u.toNat) [])
      | _ => False
    | _, _ => False
  | .slice T x lo hi mx => evS env x fun v => match v with
    | .str s => match mx, P.underlying T with
      | none, some .string => bnd env lo 0 fun a => bnd env hi s.length fun b => Ob (a ≤ b ∧ b ≤ s.length) (q (.str ((s.take b).drop a)) [])
      | _, _ => False
    | .raw (.slice p n c) => match mx.isSome && hi.isNone with
      | true => False
      | false => elemSize P T fun k => bnd env lo 0 fun a => bnd env hi n fun b => bnd env mx c fun m => SlW Φ p n c k a b m q
    | _ => False
  | .build T parts => match P.info? T, P.underlying T with
    | some i, some (.struct fs) => match i.zero, fs.toList.all fun f => (P.info? f.type).isSome with
      | some z, true => ofLK z.cells.toList fun cs => buildK P fs.toList env parts.toList cs fun cs => q (.agg cs) []
      | _, _ => False
    | _, _ => False
  | .typeAssert x _ t ok => evS env x fun v => match v with
    | .iface u w => match P.underlying t with
      | some (.interface want) => match P.info? u with
        | some i => BR (hasAll want i.methods) (holdsK ok (.iface u w) fun r => q r []) (failsK P ok t fun r => q r [])
        | none => False
      | some _ => match Nat.beq u t with
        | true => holdsK ok w fun r => q r []
        | false => failsK P ok t fun r => q r []
      | none => False
    | .raw .nilIface => match P.underlying t with
      | some _ => failsK P ok t fun r => q r []
      | none => False
    | _ => False
  | .call ⟨.builtin .len, xs, ts⟩ => match xs.toList, ts.toList with
    | [x], [u] => evS env x fun v => match v, P.underlying u with
      | .str s, some .string => q (.int .i64 s.length) []
      | .raw (.slice _ n _), some (.slice _) => q (.int .i64 n) []
      | .vec _ _ n _, some (.slice _) => q (.int .i64 n) []
      | _, _ => False
    | _, _ => False
  | .call ⟨.builtin .cap, xs, ts⟩ => match xs.toList, ts.toList with
    | [x], [u] => evS env x fun v => match v, P.underlying u with
      | .raw (.slice _ _ c), some (.slice _) => q (.int .i64 c) []
      | .vec _ _ _ c, some (.slice _) => q (.int .i64 c) []
      | _, _ => False
    | _, _ => False
  | .call ⟨.builtin .min, xs, _⟩ => match xs.toList with
    | [x, y] => evS env x fun u => evS env y fun v => match u, v with
      | .int k m, .int k' n => match decide (k = k') with
        | true => q (.int k (min m n)) []
        | false => False
      | _, _ => False
    | _ => False
  | .call ⟨.builtin .max, xs, _⟩ => match xs.toList with
    | [x, y] => evS env x fun u => evS env y fun v => match u, v with
      | .int k m, .int k' n => match decide (k = k') with
        | true => q (.int k (max m n)) []
        | false => False
      | _, _ => False
    | [x, y, z] => evS env x fun u => evS env y fun v => evS env z fun r => match u, v, r with
      | .int k m, .int k' n, .int k2 o => match decide (k = k' ∧ k = k2) with
        | true => q (.int k (max (max m n) o)) []
        | false => False
      | _, _, _ => False
    | _ => False
  | _ => False
end
end Go.Proofs.YtikjigkkhdkibaaGreatDoor.W

/- That the pure operations make what was said of symbolic values. Over any program. -/
namespace Go.Proofs.YtikjigkkhdkibaaGreatDoor.W
open Go.RowKit
variable {P : Program} {E : Operand → Value} {env : Env} {w : World}
variable {d : Option Tmp} {ty : TypeId} {pos : String} {af : Array Edge} {g : Option (Nat × Bool)}
theorem tUnd {T : TypeId} {dd : TypeDesc} (h : P.underlying T = some dd) (w : World) : (underlying T).run P w = .ok dd w := by
  simp [underlying, program, Sem.run, h, Result.andThen]
theorem tInfo {T : TypeId} {i : TypeInfo} (h : P.info? T = some i) (w : World) : (typeInfo T).run P w = .ok i w := by
  simp [typeInfo, program, Sem.run, h, Result.andThen]
theorem tSize {T : TypeId} {i : TypeInfo} (h : P.info? T = some i) (w : World) : (Go.sizeOf T).run P w = .ok i.size w := by
  simp [Go.sizeOf, tInfo h, Result.andThen]
theorem tZero {T : TypeId} {i : TypeInfo} {z : Value} (h : P.info? T = some i) (hz : i.zero = some z) (w : World) : (zeroValue T).run P w = .ok z w := by
  simp [zeroValue, tInfo h, hz, Result.andThen]
theorem tAgg {T : TypeId} {dd : TypeDesc} (h : P.underlying T = some dd) (w : World) : (isAgg T).run P w = .ok (isAggD dd) w := by
  unfold isAgg
  rw [Sem.run_bind, tUnd h]
  cases dd <;> rfl

/-- what a variable of type T at cell o of these holds -/
def RV (P : Program) (T : TypeId) (l : List SV) (o : Nat) (v : SV) : Prop :=
  ∃ i dd, P.info? T = some i ∧ P.underlying T = some dd ∧ ((isAggD dd = true ∧ o + i.size ≤ l.length ∧ v = .agg ((l.drop o).take i.size)) ∨ (isAggD dd = false ∧ l[o]? = some v))
theorem readAt_ok {T : TypeId} {l : List SV} {o : Nat} {q : SV → Prop} (h : readAt P T l o q) : ∃ v, RV P T l o v ∧ q v := by
  unfold readAt at h
  split at h
  · rename_i i dd hi hd
    split at h
    · rename_i ha
      unfold cut at h
      split at h
      · rename_i hl
        rw [dropK_eq, takeK_eq] at h
        exact ⟨_, ⟨i, dd, hi, hd, .inl ⟨ha, Nat.le_of_ble_eq_true hl, rfl⟩⟩, h⟩
      · exact h.elim
    · rename_i ha
      split at h
      · rename_i v hv
        rw [nth_eq] at hv
        exact ⟨v, ⟨i, dd, hi, hd, .inr ⟨ha, hv⟩⟩, h⟩
      · exact h.elim
  · exact h.elim
theorem dens_drop (l : List SV) (n : Nat) : dens (l.drop n) = (dens l).drop n := by simp [dens_map]
theorem dens_take (l : List SV) (n : Nat) : dens (l.take n) = (dens l).take n := by simp [dens_map]
theorem dens_get {l : List SV} {n : Nat} {v : SV} (h : l[n]? = some v) : (dens l)[n]? = some v.den := by simp [dens_map, h]
/-- the load, out of a block that holds these from its cell base on -/
theorem RV.load {T : TypeId} {l : List SV} {o base b : Nat} {v : SV} (h : RV P T l o v) {cs : Array Value} {t : TypeId} {fz : Nat × Nat} (hb : w.heap[b]? = some (.cells cs t fz))
    (hl : (cs.toList.drop base).take l.length = dens l) (hsz : base + l.length ≤ cs.size) : (loadVar T ⟨b, base + o, none⟩).run P w = .ok v.den w := by
  obtain ⟨i, dd, hi, hd, ⟨ha, hle, rfl⟩ | ⟨ha, hv⟩⟩ := h
  · have hT := tAgg (P := P) hd w
    rw [ha] at hT
    have e : (cs.toList.drop (base + o)).take i.size = dens ((l.drop o).take i.size) := by
      rw [dens_take, dens_drop, ← hl, List.drop_take, List.take_take, List.drop_drop, Nat.min_eq_left (by omega)]
    have := run_loadCells (P := P) (off := base + o) (n := i.size) hb (by omega)
    simp [loadVar, hT, tSize hi, this, Result.andThen, e, SV.den]
  · have hT := tAgg (P := P) hd w
    rw [ha] at hT
    have hlt : o < l.length := (List.getElem?_eq_some_iff.1 hv).1
    have hc : w.cell? ⟨b, base + o, none⟩ = some v.den := by
      rw [cell_of hb, ← Array.getElem?_toList]
      have := dens_get hv
      rw [← hl, List.getElem?_take, if_pos hlt, List.getElem?_drop] at this
      exact this
    simp [loadVar, hT, run_load hc, Result.andThen]
theorem RV.part {T : TypeId} {l : List SV} {o : Nat} {v : SV} (h : RV P T l o v) : (part T (dens l).toArray o).run P w = .ok v.den w := by
  obtain ⟨i, dd, hi, hd, ⟨ha, hle, rfl⟩ | ⟨ha, hv⟩⟩ := h
  · have hT := tAgg (P := P) hd w
    rw [ha] at hT
    simp [Go.part, hT, tSize hi, Result.andThen, SV.den, dens_take, dens_drop, List.extract_eq_take_drop]
  · have hT := tAgg (P := P) hd w
    rw [ha] at hT
    simp [Go.part, hT, Result.andThen, dens_get hv]
theorem fieldOff_ok {T : TypeId} {i : Nat} {q : Nat → Prop} (h : fieldOff P T i q) : ∃ fs f inf, P.underlying T = some (.struct fs) ∧ fs[i]? = some f ∧ P.info? f.type = some inf ∧ inf.size ≠ 0 ∧ q f.offset := by
  unfold fieldOff at h
  split at h
  · rename_i fs hfs
    split at h
    · rename_i f hf
      rw [nth_eq, Array.getElem?_toList] at hf
      split at h
      · rename_i inf hinf
        split at h
        · exact h.elim
        · rename_i n hn
          exact ⟨fs, f, inf, hfs, hf, hinf, by omega, h⟩
      · exact h.elim
    · exact h.elim
  · exact h.elim
theorem elemSize_ok {T : TypeId} {q : Nat → Prop} (h : elemSize P T q) : ∃ e i, P.underlying T = some (.slice e) ∧ P.info? e = some i ∧ q i.size := by
  unfold elemSize at h
  split at h
  · rename_i e he
    split at h
    · rename_i i hi
      exact ⟨e, i, he, hi, h⟩
    · exact h.elim
  · exact h.elim
theorem Idx.ok {e : Int} {q : Nat → Prop} (h : Idx e q) : ∃ n : Nat, e = n ∧ q n := ⟨e.toNat, by have := h.h0; omega, h.hq⟩
theorem bnd_ok (he : EvOk E env) {x : Option Operand} {n : Nat} {q : Nat → Prop} (h : bnd env x n q) :
    ∃ m, (match x with | some y => ∃ k, E y = .int k (m : Nat) | none => m = n) ∧ q m := by
  cases x with
  | none => exact ⟨n, rfl, h⟩
  | some x =>
    obtain ⟨v, hv, h⟩ := evS_ok he h
    split at h
    · rename_i k e
      obtain ⟨m, rfl, h2⟩ := h.ok
      exact ⟨m, ⟨k, hv⟩, h2⟩
    · exact h.elim
theorem toList_str (a b : List UInt8) : ((⟨a.toArray⟩ : ByteArray).toList == (⟨b.toArray⟩ : ByteArray).toList) = decide (a = b) := by
  simp only [ByteArray.toList_eq]
  by_cases h : a = b <;> simp [h]
/-- the results of a comparison with two ends -/
theorem nilEq_ok {op : BinOp} {b : Bool} {q : SV → Prop} (h : nilEq op b q) : (op = .eql ∧ q (.bool b)) ∨ (op = .neq ∧ q (.bool (!b))) := by
  unfold nilEq at h
  split at h
  · exact .inl ⟨rfl, h⟩
  · exact .inr ⟨rfl, h⟩
  · exact h.elim
theorem x_cmpS {op : BinOp} {x y : Operand} {t u : TypeId} {m n : List UInt8} (hx : E x = str m) (hy : E y = str n) (ho : op = .eql ∨ op = .neq) :
    (execOp E ⟨d, .binOp op t x y u, ty, pos, af, g⟩).run P w = .ok (.value (.bool (match op with | .neq => !decide (m = n) | _ => decide (m = n)))) w := by
  have hq : (eqGuard op t x y (str m) (str n)).run P w = .ok () w := by unfold eqGuard; split <;> rfl
  rcases ho with rfl | rfl <;> simp only [execOp, hx, hy, Sem.run_bind, Result.andThen, binOp, str, Op.stringOp, toList_str] <;> rfl
theorem x_ordS {op : BinOp} {x y : Operand} {t u : TypeId} {m n : List UInt8} {b : Bool} (hx : E x = str m) (hy : E y = str n) (ho : (op = .lss ∧ b = Op.bytesLess m n) ∨ (op = .geq ∧ b = !Op.bytesLess m n) ∨ (op = .leq ∧ b = (Op.bytesLess m n || decide (m = n))) ∨ (op = .gtr ∧ b = !(Op.bytesLess m n || decide (m = n)))) :
    (execOp E ⟨d, .binOp op t x y u, ty, pos, af, g⟩).run P w = .ok (.value (.bool b)) w := by
  have hq : (eqGuard op t x y (str m) (str n)).run P w = .ok () w := by unfold eqGuard; split <;> rfl
  have e1 : ∀ a : List UInt8, (⟨a.toArray⟩ : ByteArray).toList = a := fun a => by simp only [ByteArray.toList_eq]
  have e2 : (m == n) = decide (m = n) := by by_cases h : m = n <;> simp [h]
  rcases ho with ⟨rfl, rfl⟩ | ⟨rfl, rfl⟩ | ⟨rfl, rfl⟩ | ⟨rfl, rfl⟩ <;> simp only [execOp, hx, hy, Sem.run_bind, Result.andThen, binOp, str, Op.stringOp, e1, e2] <;> rfl
theorem x_concat {x y : Operand} {t u : TypeId} {m n : List UInt8} (hx : E x = str m) (hy : E y = str n) (hl : m.length + n.length ≤ 9223372036854775807) :
    (execOp E ⟨d, .binOp .add t x y u, ty, pos, af, g⟩).run P w = .ok (.value (str (m ++ n))) w := by
  have hq : (eqGuard .add t x y (str m) (str n)).run P w = .ok () w := by unfold eqGuard; rfl
  have e : (⟨m.toArray⟩ : ByteArray) ++ ⟨n.toArray⟩ = ⟨(m ++ n).toArray⟩ := by
    apply ByteArray.ext; simp
  have h2 : ¬ ((((⟨m.toArray⟩ : ByteArray).size + (⟨n.toArray⟩ : ByteArray).size : Nat) : Int) > IntKind.i64.max) := by
    show ¬ (((m.length + n.length : Nat) : Int) > 9223372036854775807)
    omega
  simp only [execOp, hx, hy, Sem.run_bind, Result.andThen, binOp, str, Op.stringOp, h2, ↓reduceIte, e]
  rfl
theorem equalIn_nn (n : Nat) {t : TypeId} {ms : Array (String × TypeId)} (hu : ∀ w, (underlying t).run P w = .ok (.interface ms) w) (w : World) : (Op.equalIn (n + 1) t .nilIface .nilIface).run P w = .ok true w := by simp [Op.equalIn, hu]
theorem equalIn_in (n : Nat) {t : TypeId} {ms : Array (String × TypeId)} (hu : ∀ w, (underlying t).run P w = .ok (.interface ms) w) (u : TypeId) (v : Value) (w : World) : (Op.equalIn (n + 1) t (.iface u v) .nilIface).run P w = .ok false w := by simp [Op.equalIn, hu]
theorem x_nil {op : BinOp} {x y : Operand} {t u : TypeId} {ms : Array (String × TypeId)} (hu : ∀ w, (underlying t).run P w = .ok (.interface ms) w) (hx : E x = .nilIface) (hy : E y = .nilIface) (hc : (isC x || isC y) = true) (ho : op = .eql ∨ op = .neq) :
    (execOp E ⟨d, .binOp op t x y u, ty, pos, af, g⟩).run P w = .ok (.value (.bool (match op with | .neq => !true | _ => true))) w := by
  have hq : (eqGuard op t x y .nilIface .nilIface).run P w = .ok () w := by
    cases x <;> cases y <;> simp [isC] at hc <;> rcases ho with rfl | rfl <;> simp [eqGuard]
  have hn : (Op.equal t .nilIface .nilIface).run P w = .ok true w := equalIn_nn 9999 hu w
  rcases ho with rfl | rfl <;> simp only [execOp, hx, hy, Sem.run_bind, hq, Result.andThen, binOp, hn, Sem.run_pure]
theorem x_notNil {op : BinOp} {x y : Operand} {t u s : TypeId} {v : Value} {ms : Array (String × TypeId)} (hu : ∀ w, (underlying t).run P w = .ok (.interface ms) w) (hx : E x = .iface s v) (hy : E y = .nilIface) (ho : op = .eql ∨ op = .neq) :
    (execOp E ⟨d, .binOp op t x y u, ty, pos, af, g⟩).run P w = .ok (.value (.bool (match op with | .neq => !false | _ => false))) w := by
  have hq : (eqGuard op t x y (.iface s v) .nilIface).run P w = .ok () w := by
    rcases ho with rfl | rfl <;> simp [eqGuard]
  have hn : (Op.equal t (.iface s v) .nilIface).run P w = .ok false w := equalIn_in 9999 hu s v w
  rcases ho with rfl | rfl <;> simp only [execOp, hx, hy, Sem.run_bind, hq, Result.andThen, binOp, hn, Sem.run_pure]
theorem x_ptr {op : BinOp} {x y : Operand} {t u : TypeId} {p p' : Option Addr} {r : Bool} (hx : E x = .pointer p) (hy : E y = .pointer p') (ho : op = .eql ∨ op = .neq)
    (he' : (Op.equal t (.pointer p) (.pointer p')).run P w = .ok r w) :
    (execOp E ⟨d, .binOp op t x y u, ty, pos, af, g⟩).run P w = .ok (.value (.bool (match op with | .neq => !r | _ => r))) w := by
  have hq : (eqGuard op t x y (.pointer p) (.pointer p')).run P w = .ok () w := by rcases ho with rfl | rfl <;> simp [eqGuard]
  rcases ho with rfl | rfl <;> simp only [execOp, hx, hy, Sem.run_bind, hq, Result.andThen, binOp, he', Sem.run_pure]
theorem eq_nilnil (n : Nat) {t e : TypeId} (h : P.underlying t = some (.pointer e)) : (Op.equalIn (n + 1) t (.pointer none) (.pointer none)).run P w = .ok true w := by simp [Op.equalIn, tUnd h]
theorem eq_somenil (n : Nat) {t e : TypeId} {a : Addr} (h : P.underlying t = some (.pointer e)) : (Op.equalIn (n + 1) t (.pointer (some a)) (.pointer none)).run P w = .ok false w := by simp [Op.equalIn, tUnd h]
theorem eq_same (n : Nat) {t e : TypeId} {a : Addr} {i : TypeInfo} (h : P.underlying t = some (.pointer e)) (hi : P.info? e = some i) (_ : i.size ≠ 0) : (Op.equalIn (n + 1) t (.pointer (some a)) (.pointer (some a))).run P w = .ok true w := by
  simp [Op.equalIn, tUnd h, tSize hi, sameAddr]
/-- an operation that yields what a symbolic value stands for -/
def Yd (P : Program) (E : Operand → Value) (o : Oper) (v : SV) (w : World) : Prop := (execOp E o).run P w = .ok (.value v.den) w
theorem bin_ok {Φ : Facts} {op : BinOp} {t u : TypeId} {x y : Operand} {a b : SV} {q : SV → Prop} (hx : E x = a.den) (hy' : E y = b.den) (h : bin P Φ (isC x || isC y) op t a b q) :
    ∃ v, q v ∧ ∀ A w, Hold Φ A w → Yd P E ⟨d, .binOp op t x y u, ty, pos, af, g⟩ v w := by
  unfold bin at h
  split at h
  · rename_i k m k' n
    split at h
    · rename_i hk
      have hkk : isSh op = true ∨ k = k' := by simpa using hk
      have hx' : E x = .int k m := hx
      have hy'' : E y = .int k' n := hy'
      unfold binI at h
      split at h
      all_goals first
        | exact h.elim
        | (obtain rfl : k = k' := by simpa [isSh] using hkk
           exact ⟨_, h, fun _ w _ => x_cmp hx' hy'' rfl⟩)
        | (obtain rfl : k = k' := by simpa [isSh] using hkk
           exact ⟨_, h.h, fun _ w _ => x_ari hx' hy'' rfl⟩)
        | (obtain rfl : k = k' := by simpa [isSh] using hkk
           exact ⟨_, h.next.h, fun _ w _ => x_ari hx' hy'' (by simp only [ariI]; rw [if_neg h.here])⟩)
        | (obtain rfl : k = k' := by simpa [isSh] using hkk
           exact ⟨_, h.next, fun _ w _ => x_ari hx' hy'' (by simp only [ariI]; rw [if_neg h.here])⟩)
        | exact ⟨_, h.next.h, fun _ w _ => x_shift hx' hy'' (by unfold shI; rw [if_neg (by have := h.here; omega)])⟩
        | exact ⟨_, h.next, fun _ w _ => x_shift hx' hy'' (by unfold shI; rw [if_neg (by have := h.here; omega)])⟩
    · exact h.elim
  · rename_i m n
    split at h
    · exact ⟨_, h.next, fun _ w _ => x_concat hx hy' h.here⟩
    · exact ⟨_, h, fun _ w _ => x_ordS hx hy' (.inl ⟨rfl, rfl⟩)⟩
    · exact ⟨_, h, fun _ w _ => x_ordS hx hy' (.inr (.inl ⟨rfl, rfl⟩))⟩
    · exact ⟨_, h, fun _ w _ => x_ordS hx hy' (.inr (.inr (.inl ⟨rfl, rfl⟩)))⟩
    · exact ⟨_, h, fun _ w _ => x_ordS hx hy' (.inr (.inr (.inr ⟨rfl, rfl⟩)))⟩
    · rcases nilEq_ok h with ⟨rfl, h⟩ | ⟨rfl, h⟩
      · exact ⟨_, h, fun _ w _ => x_cmpS hx hy' (.inl rfl)⟩
      · exact ⟨_, h, fun _ w _ => x_cmpS hx hy' (.inr rfl)⟩
  · rename_i m n
    split at h
    · rename_i ht
      rcases nilEq_ok h with ⟨rfl, h⟩ | ⟨rfl, h⟩
      · exact ⟨_, h, fun _ w _ => x_cmpB (fun w => tUnd ht w) hx hy' rfl⟩
      · exact ⟨_, h, fun _ w _ => x_cmpB (fun w => tUnd ht w) hx hy' rfl⟩
    · exact h.elim
  · split at h
    · rename_i ht
      rcases nilEq_ok h with ⟨rfl, h⟩ | ⟨rfl, h⟩
      · exact ⟨_, h, fun _ w _ => x_notNil (fun w => tUnd ht w) hx hy' (.inl rfl)⟩
      · exact ⟨_, h, fun _ w _ => x_notNil (fun w => tUnd ht w) hx hy' (.inr rfl)⟩
    · exact h.elim
  · split at h
    · rename_i ht hc
      rcases nilEq_ok h with ⟨rfl, h⟩ | ⟨rfl, h⟩
      · exact ⟨_, h, fun _ w _ => x_nil (fun w => tUnd ht w) hx hy' hc (.inl rfl)⟩
      · exact ⟨_, h, fun _ w _ => x_nil (fun w => tUnd ht w) hx hy' hc (.inr rfl)⟩
    · exact h.elim
  · split at h
    · rename_i ht
      rcases nilEq_ok h with ⟨rfl, h⟩ | ⟨rfl, h⟩
      · exact ⟨_, h, fun _ w _ => x_ptr hx hy' (.inl rfl) (eq_nilnil 9999 ht)⟩
      · exact ⟨_, h, fun _ w _ => x_ptr hx hy' (.inr rfl) (eq_nilnil 9999 ht)⟩
    · exact h.elim
  · split at h
    · rename_i ht
      rcases nilEq_ok h with ⟨rfl, h⟩ | ⟨rfl, h⟩
      · exact ⟨_, h, fun _ w _ => x_ptr hx hy' (.inl rfl) (eq_somenil 9999 ht)⟩
      · exact ⟨_, h, fun _ w _ => x_ptr hx hy' (.inr rfl) (eq_somenil 9999 ht)⟩
    · exact h.elim
  · split at h
    · rename_i ht
      rcases nilEq_ok h with ⟨rfl, h⟩ | ⟨rfl, h⟩
      · exact ⟨_, h, fun _ w _ => x_ptr hx hy' (.inl rfl) (eq_somenil 9999 ht)⟩
      · exact ⟨_, h, fun _ w _ => x_ptr hx hy' (.inr rfl) (eq_somenil 9999 ht)⟩
    · exact h.elim
  · split at h
    · rename_i ht
      split at h
      · rename_i inf hinf
        split at h
        · exact h.elim
        · rename_i k hk
          obtain ⟨⟨rfl, rfl⟩, h⟩ := h
          rcases nilEq_ok h with ⟨rfl, h⟩ | ⟨rfl, h⟩
          · exact ⟨_, h, fun _ w _ => x_ptr hx hy' (.inl rfl) (eq_same 9999 ht hinf (by omega))⟩
          · exact ⟨_, h, fun _ w _ => x_ptr hx hy' (.inr rfl) (eq_same 9999 ht hinf (by omega))⟩
      · exact h.elim
    · exact h.elim
  · obtain ⟨v, hq, hy⟩ := h.h
    exact ⟨v, hq, fun A w hh => hy E d ty pos af g x y u A w hh hx hy' rfl⟩
end Go.Proofs.YtikjigkkhdkibaaGreatDoor.W

/- That the pure operations make what was said, all together. Over any program. -/
namespace Go.Proofs.YtikjigkkhdkibaaGreatDoor.W
open Go.RowKit
variable {P : Program} {E : Operand → Value} {env : Env} {w : World}
variable {d : Option Tmp} {ty : TypeId} {pos : String} {af : Array Edge} {g : Option (Nat × Bool)}
variable {lb : LBs} {Φ : Facts} {ω : Amb} {A : Nat → Prop}
theorem Rel.cells (h : Rel P lb Φ ω w) {i b : Nat} {cs : List SV} {t : TypeId} (hi : nth lb i = some (b, .cells cs t)) : w.heap[b]? = some (.cells (dens cs).toArray t (0, 0)) := by
  obtain ⟨_, o, h1, h2⟩ := (h.st.own i _ (sem_get hi)).2 trivial
  rw [← (h2 : o = _)]; exact h1
theorem Rel.vec (h : Rel P lb Φ ω w) {i b : Nat} {α : Type} {enc : α → List SV} {k n c : Nat} {t : TypeId} {p : Option Addr} {L : List α} (hi : nth lb i = some (b, .vec enc k t p n c L)) :
    (L.length = n ∧ n ≤ c ∧ c ≤ 9223372036854775807 ∧ (∀ x ∈ L, okE enc k x) ∧ (c ≠ 0 → p = some ⟨b, 0, none⟩) ∧ (p = none → c = 0)) ∧
    (c ≠ 0 → ∃ (arr : Array Value) (fz : Nat × Nat), w.heap[b]? = some (.cells arr t fz) ∧ Thaw fz arr.size ∧ arr.size = c * k ∧ arr.toList.take (n * k) = flat enc L) := by
  obtain ⟨h1, h2⟩ := h.st.own i _ (sem_get hi)
  refine ⟨h1, fun hc => ?_⟩
  obtain ⟨_, o, h3, arr, fz, rfl, h4, h5, h6⟩ := h2 hc
  exact ⟨arr, fz, h3, h4, h5, h6⟩
theorem x_loadV {x : Operand} {T : TypeId} {a : Addr} {v : Value} (hx : E x = .pointer (some a)) (hv : (loadVar T a).run P w = .ok v w) :
    (execOp E ⟨d, .load T x, ty, pos, af, g⟩).run P w = .ok (.value v) w := by simp [execOp, hx, Instr.loadAt, Instr.sureAddr, hv]
theorem x_indexAt {x y : Operand} {T e : TypeId} {a : Addr} {n c : Nat} {kd : IntKind} {j : Nat} {i : TypeInfo} (hu : P.underlying T = some (.slice e)) (hi : P.info? e = some i)
    (hx : E x = .slice (some a) n c) (hy : E y = .int kd j) (hj : j < n) :
    (execOp E ⟨d, .indexAddr T x y, ty, pos, af, g⟩).run P w = .ok (.value (.pointer (some (a.add (j * i.size))))) w := by
  have h1 : (0 : Int) ≤ j := by omega
  have h2 : (j : Int) < n := by omega
  simp only [execOp, Instr.indexAt, hx, hy, asIntOf, Sem.run_bind, Sem.run_pure, Result.andThen, tUnd hu]
  simp [h1, h2, tSize hi, Result.andThen]
theorem x_fieldAt {x : Operand} {T : TypeId} {i b off : Nat} {fs : Array Field} {f : Field} {inf : TypeInfo} (hu : P.underlying T = some (.struct fs)) (hf : fs[i]? = some f)
    (hn : P.info? f.type = some inf) (h0 : inf.size ≠ 0) (hx : E x = .pointer (some ⟨b, off, none⟩)) :
    (execOp E ⟨d, .fieldAddr T x i, ty, pos, af, g⟩).run P w = .ok (.value (.pointer (some ⟨b, off + f.offset, none⟩))) w := by
  obtain ⟨n, hn'⟩ := Nat.exists_eq_succ_of_ne_zero h0
  exact x_field (fun w => tUnd hu w) hf (n := n) (fun w => by rw [tSize hn, hn']) hx
theorem Sl.row {k n c : Nat} {p : Option Addr} {C : List Value} (h : Sl A w k p n c C) {i : Nat} (hi : i < n) : ∃ b off, p = some ⟨b, off, none⟩ := by
  obtain ⟨b, off, _, _, _, h1, _⟩ := h.cell hi
  exact ⟨b, off, h1⟩
theorem x_sliceSl {x : Operand} {T e : TypeId} {i : TypeInfo} {p : Option Addr} {n c : Nat} {lo hi mx : Option Operand} {a b m : Nat} (hu : P.underlying T = some (.slice e)) (hinf : P.info? e = some i) (hx : E x = .slice p n c)
    (hlo : (match lo with | some y => ∃ k, E y = .int k (a : Nat) | none => a = 0)) (hhi : (match hi with | some y => ∃ k, E y = .int k (b : Nat) | none => b = n)) (hmx : (match mx with | some y => ∃ k, E y = .int k (m : Nat) | none => m = c))
    (hm3 : mx.isSome = true → hi.isSome = true) (h1 : a ≤ b) (h2 : b ≤ n) (h3 : b ≤ m) (h4 : m ≤ c) :
    (execOp E ⟨d, .slice T x lo hi mx, ty, pos, af, g⟩).run P w = .ok (.value (.slice (if m = a then p else p.map (·.add (a * i.size))) (b - a) (m - a))) w := by
  have hs := fun w => tSize (P := P) hinf w
  have hu' := fun w => tUnd (P := P) hu w
  have e1 : ∀ {k : IntKind} {u v : Nat} {cd : BoundsCode} {w : World}, u ≤ v → (Instr.sliceBound (.int k (u : Nat)) v cd).run P w = .ok u w := by
    intro k u v cd w huv
    simp [Instr.sliceBound, asIntOf, huv]
  have hb : (Instr.sliceBounds true n c (lo.map E) (hi.map E) (mx.map E)).run P w = .ok (a, b, m) w := by
    cases mx with
    | none =>
      simp only at hmx; subst hmx
      cases hi with
      | none =>
        simp only at hhi; subst hhi
        cases lo with
        | none => simp only at hlo; subst hlo; simp [Instr.sliceBounds]
        | some z => obtain ⟨k, hk⟩ := hlo; simp [Instr.sliceBounds, hk, e1, h1]
      | some y =>
        obtain ⟨k', hk'⟩ := hhi
        cases lo with
        | none => simp only at hlo; subst hlo; simp [Instr.sliceBounds, hk', e1, h3]
        | some z => obtain ⟨k, hk⟩ := hlo; simp [Instr.sliceBounds, hk, hk', e1, h1, h3]
    | some q =>
      obtain ⟨k'', hk''⟩ := hmx
      cases hi with
      | none => simp at hm3
      | some y =>
        obtain ⟨k', hk'⟩ := hhi
        cases lo with
        | none => simp only at hlo; subst hlo; simp [Instr.sliceBounds, hk', hk'', e1, h3, h4]
        | some z => obtain ⟨k, hk⟩ := hlo; simp [Instr.sliceBounds, hk, hk', hk'', e1, h1, h3, h4]
  simp only [execOp, Instr.sliceAt, Instr.slice, hx, Sem.run_bind, hu', Result.andThen, hb, hs, Sem.run_pure]
theorem drop_take_of {α : Type _} {l c : List α} {off N a b : Nat} (h : (l.drop off).take N = c) (hb : b ≤ N) : (l.drop (off + a)).take (b - a) = (c.take b).drop a := by
  rw [← h, List.take_take, Nat.min_eq_left hb, List.drop_take, List.drop_drop]
theorem take_add_append {α : Type _} {l m : List α} {k : Nat} (h : l.length = k) (j : Nat) : (l ++ m).take (k + j) = l ++ m.take j := by
  subst h; simp [List.take_length_add_append]
theorem flat_take {α : Type} {enc : α → List SV} {k : Nat} {L : List α} (h : ∀ x ∈ L, (enc x).length = k) (b : Nat) : flat enc (L.take b) = (flat enc L).take (b * k) := by
  induction L generalizing b with
  | nil => simp [flat]
  | cons y L ih =>
    have hy : (dens (enc y)).length = k := by rw [dens_length, h y (by simp)]
    cases b with
    | zero => simp [flat]
    | succ b =>
      have := ih (fun z hz => h z (by simp [hz])) b
      simp only [flat, List.flatMap_cons, List.take_succ_cons] at this ⊢
      rw [this, Nat.succ_mul, Nat.add_comm, take_add_append hy]
theorem flat_drop {α : Type} {enc : α → List SV} {k : Nat} {L : List α} (h : ∀ x ∈ L, (enc x).length = k) (b : Nat) : flat enc (L.drop b) = (flat enc L).drop (b * k) := by
  induction L generalizing b with
  | nil => simp [flat]
  | cons y L ih =>
    have hy : (dens (enc y)).length = k := by rw [dens_length, h y (by simp)]
    cases b with
    | zero => simp [flat]
    | succ b =>
      have := ih (fun z hz => h z (by simp [hz])) b
      simp only [flat, List.flatMap_cons, List.drop_succ_cons] at this ⊢
      rw [this, Nat.succ_mul, Nat.add_comm, ← List.drop_drop, List.drop_left' hy]
/-- a part of a slice is a slice -/
theorem Sl.part {k n c : Nat} {p : Option Addr} {C : List Value} (h : Sl A w k p n c C) {a b m : Nat} (h1 : a ≤ b) (h2 : b ≤ n) (h3 : b ≤ m) (h4 : m ≤ c) :
    Sl A w k (if m = a then p else p.map (·.add (a * k))) (b - a) (m - a) ((C.take (b * k)).drop (a * k)) := by
  have hbk : b * k ≤ n * k := Nat.mul_le_mul_right _ h2
  have hak : a * k ≤ b * k := Nat.mul_le_mul_right _ h1
  have hsub : (b - a) * k = b * k - a * k := Nat.mul_sub_right_distrib ..
  refine ⟨by rw [List.length_drop, List.length_take, h.len, Nat.min_eq_left hbk, hsub], by omega, by have := h.small; omega, ?_, ?_⟩
  · intro hp
    split at hp
    · omega
    · have : p = none := by cases p <;> simp at hp ⊢
      have := h.isNil this
      omega
  · rcases Nat.eq_zero_or_pos (b - a) with h0 | h0
    · exact .inl h0
    · right
      rcases h.at_ with h5 | ⟨bb, off, cs, t, fz, g1, g2, g3, g4, g5⟩
      · omega
      · refine ⟨bb, off + a * k, cs, t, fz, ?_, g2, g3, by omega, ?_⟩
        · rw [if_neg (by omega), g1]; simp [addr_add]
        · rw [hsub]; exact drop_take_of g5 hbk
theorem x_len {x : Operand} {t u : TypeId} {v : Value} {n : Nat} {dd : TypeDesc} (hu : P.underlying u = some dd) (hx : E x = v)
    (h : (∃ s, v = str s ∧ dd = .string ∧ n = s.length) ∨ ∃ p c e, v = .slice p n c ∧ dd = .slice e) :
    (execOp E ⟨d, .call ⟨.builtin .len, #[x], #[u]⟩, t, pos, af, g⟩).run P w = .ok (.value (.int .i64 n)) w := by
  rcases h with ⟨s, rfl, rfl, rfl⟩ | ⟨p, c, e, rfl, rfl⟩
  · exact x_lenS (fun w => tUnd hu w) hx
  · exact x_lenSl (fun w => tUnd hu w) hx
theorem x_cap {x : Operand} {t u e : TypeId} {p : Option Addr} {n c : Nat} (hu : P.underlying u = some (.slice e)) (hx : E x = .slice p n c) :
    (execOp E ⟨d, .call ⟨.builtin .cap, #[x], #[u]⟩, t, pos, af, g⟩).run P w = .ok (.value (.int .i64 c)) w :=
  x_builtin rfl (by
    simp only [builtin, Builtin.cap_, List.map_cons, List.map_nil, hx]
    simp only [List.getElem?_toArray, List.getElem?_cons_zero, Sem.run_bind, tUnd hu, Result.andThen, Sem.run_pure]
    rfl)
theorem x_nilCheck {x : Operand} {v : Value} (hx : E x = v) (hv : (∃ a, v = .pointer (some a)) ∨ (∃ f us vs, v = .func (.func f) us vs) ∨ ∃ t u, v = .iface t u) :
    (execOp E ⟨d, .nilCheck x, ty, pos, af, g⟩).run P w = .ok (.value v) w := by
  rcases hv with ⟨a, rfl⟩ | ⟨f, us, vs, rfl⟩ | ⟨t, u, rfl⟩ <;> simp only [execOp, hx] <;> rfl
theorem min_if (m n : Int) : (if n < m then n else m) = min m n := by
  rw [Int.min_def]; split <;> split <;> omega
theorem max_if (m n : Int) : (if n > m then n else m) = max m n := by
  rw [Int.max_def]; split <;> split <;> omega
theorem toList_two {α : Type _} {a : Array α} {l : List α} (h : a.toList = l) : a = l.toArray := by rw [← h]
theorem elp_some {p : Option Addr} {b off j : Nat} (h : p = some ⟨b, off, none⟩) : ptrAt p j = .pointer (some ⟨b, off + j, none⟩) := by
  subst h; simp [ptrAt, addr_add]
/-- the places of a struct's fields -/
theorem run_places : ∀ {fs : List Field}, (fs.all fun f => (P.info? f.type).isSome) = true → ∀ (w : World),
    (fs.mapM (fun f => (do pure (f.offset, ← Go.sizeOf f.type) : Sem (Nat × Nat)))).run P w = .ok (fs.map fun f => (f.offset, ((P.info? f.type).map (·.size)).getD 0)) w
  | [], _, w => by simp
  | f :: fs, h, w => by
    simp only [List.all_cons, Bool.and_eq_true] at h
    obtain ⟨h1, h2⟩ := h
    obtain ⟨i, hi⟩ := Option.isSome_iff_exists.1 h1
    rw [List.mapM_cons, Sem.run_bind, Sem.run_bind, tSize hi]
    simp only [Result.andThen, Sem.run_pure]
    rw [Sem.run_bind, run_places h2 w]
    simp [Result.andThen, hi]
theorem zip_fold (off : Nat) : ∀ (vs : List Value) (n : Nat) (cs : List Value), off + n + vs.length ≤ cs.length →
    (vs.zipIdx n).foldl (fun (a : Array Value) (p : Value × Nat) => a.setIfInBounds (off + p.2) p.1) cs.toArray = (upd cs (off + n) vs).toArray
  | [], n, cs, _ => by simp [upd_nil]
  | v :: vs, n, cs, h => by
    simp only [List.length_cons] at h
    rw [List.zipIdx_cons, List.foldl_cons]
    simp only [List.setIfInBounds_toArray]
    rw [zip_fold off vs (n + 1) _ (by simp; omega), ← Nat.add_assoc, upd_cons _ _ _ _ (by simp; omega)]
theorem dens_updS' (l : List SV) (o : Nat) (vs : List SV) : dens (updS l o vs) = upd (dens l) o (dens vs) := by
  simp [updS, upd, dens_append, dens_length]
  simp [dens_map]
theorem dens_cells (v : SV) : dens (cellsOf v) = v.den.cells.toList := by
  cases v with
  | agg l => simp [cellsOf, SV.den, Value.cells]
  | raw v => simp [cellsOf, SV.den, dens_ofA]
  | _ => rfl
theorem buildK_ok (he : EvOk E env) {fs : List Field} : ∀ {ps : List (Nat × Operand)} {cs : List SV} {k : List SV → Prop}, buildK P fs env ps cs k →
    ∃ cs', k cs' ∧ Instr.fill ((fs.map fun f => (f.offset, ((P.info? f.type).map (·.size)).getD 0)).toArray[·]?) (dens cs).toArray (ps.map fun p => (p.1, E p.2)) = some (dens cs').toArray
  | [], cs, k, h => ⟨cs, h, rfl⟩
  | (i, x) :: ps, cs, k, h => by
    obtain ⟨v, hv, h⟩ := evS_ok he h
    split at h
    · rename_i f hf
      split at h
      · rename_i inf hinf
        rw [cellsK_eq] at h
        split at h
        · rename_i hsz
          obtain ⟨h1, h2⟩ := updK_ok h
          obtain ⟨cs', hk, hfl⟩ := buildK_ok he h1
          refine ⟨cs', hk, ?_⟩
          rw [nth_eq] at hf
          have hpl : ((fs.map fun f => (f.offset, ((P.info? f.type).map (·.size)).getD 0)).toArray[i]?) = some (f.offset, inf.size) := by simp [hf, hinf]
          have e1 := dens_cells v
          have e2 : v.den.cells.size = (cellsOf v).length := by
            have := congrArg List.length e1
            rw [dens_length, Array.length_toList] at this
            exact this.symm
          have hsz' : (cellsOf v).length = inf.size := Nat.eq_of_beq_eq_true hsz
          rw [List.map_cons, Instr.fill]
          simp only [hv]
          rw [hpl]
          simp only
          rw [if_neg (by simp [e2, hsz', dens_length]; omega)]
          rw [← hfl, dens_updS', e1]
          congr 1
          have := zip_fold f.offset v.den.cells.toList 0 (dens cs) (by rw [← e1]; simpa [dens_length] using h2)
          rw [Nat.add_zero] at this
          rw [← this]
          rw [← Array.foldl_toList]
          simp
        · exact h.elim
      · exact h.elim
    · exact h.elim
theorem x_assert {x : Operand} {s t : TypeId} {ok : Bool} {v xv : Value} (hx : E x = xv) (hr : (Instr.typeAssert xv s t ok).run P w = .ok v w) :
    (execOp E ⟨d, .typeAssert x s t ok, ty, pos, af, g⟩).run P w = .ok (.value v) w := by
  simp [execOp, hx, hr]
/-- what a call may say of an operation: it yields v, and these facts hold -/
theorem pv_ok (he : EvOk E env) (hr : Rel P lb Φ ω w) {op : Op} {q : SV → Facts → Prop} (h : pv P env lb Φ op q) :
    ∃ v fs, q v fs ∧ ∀ w', Rel P lb Φ ω w' → Yd P E ⟨d, op, ty, pos, af, g⟩ v w' ∧ ∀ A, Hold Φ A w' → Hold fs A w' := by
  have hold0 : ∀ (w' : World) A, Hold Φ A w' → Hold [] A w' := fun w' A _ => Hold.nil
  unfold pv at h
  split at h
  · -- move
    obtain ⟨v, hv, hh⟩ := evS_ok he h; clear h; have h := hh; clear hh
    exact ⟨v, [], h, fun w' _ => ⟨x_move hv, hold0 _⟩⟩
  · obtain ⟨v, hv, hh⟩ := evS_ok he h; clear h; have h := hh; clear hh
    exact ⟨v, [], h, fun w' _ => ⟨x_assign hv, hold0 _⟩⟩
  · -- pick
    obtain ⟨c, hc, hh⟩ := evS_ok he h; clear h; have h := hh; clear hh
    split at h
    · rename_i b
      cases b with
      | true =>
        obtain ⟨v, hv, h⟩ := evS_ok he (h.t rfl)
        exact ⟨v, [], h, fun w' _ => ⟨x_pickT hc hv, hold0 _⟩⟩
      | false =>
        obtain ⟨v, hv, h⟩ := evS_ok he (h.f rfl)
        exact ⟨v, [], h, fun w' _ => ⟨x_pickF hc hv, hold0 _⟩⟩
    · exact h.elim
  · -- extract
    obtain ⟨v, hv, hh⟩ := evS_ok he h; clear h; have h := hh; clear hh
    split at h
    · rename_i l
      split at h
      · rename_i u hu
        rw [nth_eq] at hu
        exact ⟨u, [], h, fun w' _ => ⟨x_extract hv (by simpa using dens_get hu), hold0 _⟩⟩
      · exact h.elim
    · exact h.elim
  · -- makeInterface
    obtain ⟨v, hv, hh⟩ := evS_ok he h; clear h; have h := hh; clear hh
    split at h
    · exact h.elim
    · rename_i dd hn hd
      exact ⟨_, [], h, fun w' _ => ⟨x_iface hv (fun w => tUnd hd w) (by cases dd <;> first | rfl | exact absurd rfl (hn _)), hold0 _⟩⟩
    · exact h.elim
  · -- makeFunc
    obtain ⟨us, hus, hh⟩ := evL_ok he h; clear h; have h := hh; clear hh
    obtain ⟨vs, hvs, hh⟩ := evL_ok he h; clear h; have h := hh; clear hh
    exact ⟨_, [], h, fun w' _ => ⟨x_makeFunc hus hvs, hold0 _⟩⟩
  · -- not
    obtain ⟨v, hv, hh⟩ := evS_ok he h; clear h; have h := hh; clear hh
    split at h
    · exact ⟨_, [], h, fun w' _ => ⟨x_not hv, hold0 _⟩⟩
    · exact h.elim
  · -- neg
    obtain ⟨v, hv, hh⟩ := evS_ok he h; clear h; have h := hh; clear hh
    split at h
    · exact ⟨_, [], h.h, fun w' _ => ⟨x_neg hv rfl, hold0 _⟩⟩
    · exact h.elim
  · -- nilCheck
    obtain ⟨v, hv, hh⟩ := evS_ok he h; clear h; have h := hh; clear hh
    split at h
    · exact ⟨_, [], h, fun w' _ => ⟨x_nilCheck hv (.inl ⟨_, rfl⟩), hold0 _⟩⟩
    · exact ⟨_, [], h, fun w' _ => ⟨x_nilCheck hv (.inl ⟨_, rfl⟩), hold0 _⟩⟩
    · exact ⟨_, [], h, fun w' _ => ⟨x_nilCheck hv (.inl ⟨_, rfl⟩), hold0 _⟩⟩
    · exact ⟨_, [], h, fun w' _ => ⟨x_nilCheck hv (.inr (.inl ⟨_, _, _, rfl⟩)), hold0 _⟩⟩
    · exact ⟨_, [], h, fun w' _ => ⟨x_nilCheck hv (.inr (.inr ⟨_, _, rfl⟩)), hold0 _⟩⟩
    · exact h.elim
  · -- binOp
    obtain ⟨u, hu, hh⟩ := evS_ok he h; clear h; have h := hh; clear hh
    obtain ⟨v, hv, hh⟩ := evS_ok he h; clear h; have h := hh; clear hh
    obtain ⟨r, h, hy⟩ := bin_ok hu hv h
    exact ⟨r, [], h, fun w' hr' => ⟨hy _ w' hr'.hold, hold0 _⟩⟩
  · -- convert
    obtain ⟨v, hv, hh⟩ := evS_ok he h; clear h; have h := hh; clear hh
    split at h
    · split at h
      · rename_i hs ht
        exact ⟨_, [], h.h, fun w' _ => ⟨x_conv (fun w => tUnd hs w) (fun w => tUnd ht w) hv rfl, hold0 _⟩⟩
      · exact h.elim
    · exact h.elim
  · -- field
    obtain ⟨v, hv, hh⟩ := evS_ok he h; clear h; have h := hh; clear hh
    split at h
    · rename_i l
      split at h
      · rename_i fs hfs
        split at h
        · rename_i f hf
          rw [nth_eq, Array.getElem?_toList] at hf
          obtain ⟨r, hrv, hh⟩ := readAt_ok h; clear h; have h := hh; clear hh
          refine ⟨r, [], h, fun w' _ => ⟨?_, hold0 _⟩⟩
          simp only [Yd, execOp, Instr.field, hv, SV.den, Sem.run_bind, tUnd hfs, Result.andThen, asAgg, Sem.run_pure, hf]
          rw [hrv.part]
        · exact h.elim
      · exact h.elim
    · exact h.elim
  · -- fieldAddr
    obtain ⟨v, hv, hh⟩ := evS_ok he h; clear h; have h := hh; clear hh
    obtain ⟨fs, f, inf, h1, h2, h3, h4, hh⟩ := fieldOff_ok h; clear h; have h := hh; clear hh
    split at h
    · rw [addK_eq] at h; exact ⟨_, [], h, fun w' _ => ⟨x_fieldAt h1 h2 h3 h4 hv, hold0 _⟩⟩
    · rw [addK_eq] at h
      refine ⟨_, [], h, fun w' _ => ⟨?_, hold0 _⟩⟩
      have := x_fieldAt (P := P) (w := w') (d := d) (ty := ty) (pos := pos) (af := af) (g := g) h1 h2 h3 h4 hv
      rwa [Nat.add_assoc] at this
    · rename_i p n c e k o
      obtain ⟨⟨α, enc, L, hm⟩, hob0⟩ := h
      obtain ⟨hlt, hnx⟩ := hob0
      rw [addK_eq] at hnx
      have hob : Ob (e < n) _ := ⟨hlt, hnx⟩
      refine ⟨_, [], hob.next, fun w' hr' => ⟨?_, hold0 _⟩⟩
      obtain ⟨b, off, hp⟩ := (hr'.hold _ hm).2.2.row hob.here
      have hx : E _ = .pointer (some ⟨b, off + (e * k + o), none⟩) := hv.trans (elp_some hp)
      have := x_fieldAt (P := P) (w := w') (d := d) (ty := ty) (pos := pos) (af := af) (g := g) h1 h2 h3 h4 hx
      show (execOp E _).run P w' = .ok (.value (ptrAt p (e * k + (o + f.offset)))) w'
      rw [elp_some hp, this]
      simp [Nat.add_assoc]
    · rw [addK_eq] at h; exact ⟨_, [], h, fun w' _ => ⟨x_fieldAt h1 h2 h3 h4 hv, hold0 _⟩⟩
    · exact h.elim
  · -- load
    obtain ⟨v, hv, hh⟩ := evS_ok he h; clear h; have h := hh; clear hh
    split at h
    · rename_i i b o
      split at h
      · rename_i b' cs t hi
        obtain ⟨rfl, h⟩ := h
        obtain ⟨r, hrv, hh⟩ := readAt_ok h; clear h; have h := hh; clear hh
        refine ⟨r, [], h, fun w' hr' => ⟨x_loadV hv ?_, hold0 _⟩⟩
        have := hrv.load (w := w') (base := 0) (hr'.cells hi) (by rw [List.drop_zero, List.take_of_length_le (by simp [dens_length])]) (by simp [dens_length])
        rwa [Nat.zero_add] at this
      · exact h.elim
    · rename_i i b e k o
      split at h
      · rename_i b' α enc k' t p n c L hi
        obtain ⟨⟨rfl, rfl, hen⟩, h⟩ := h
        obtain ⟨g1, g2⟩ := hr.vec hi
        have hel : e < L.length := by omega
        obtain ⟨r, hrv, h⟩ := readAt_ok (h L[e] (by simp [hel]))
        refine ⟨r, [], h, fun w' hr' => ⟨x_loadV hv ?_, hold0 _⟩⟩
        obtain ⟨g1', g2'⟩ := hr'.vec hi
        obtain ⟨arr, fz, a1, az, a2, a3⟩ := g2' (by omega)
        have hk : (enc L[e]).length = k' := (g1.2.2.2.1 _ (List.getElem_mem hel)).1
        have hle : e * k' + k' ≤ n * k' := by
          rw [← Nat.succ_mul]; exact Nat.mul_le_mul_right _ hen
        have hle2 : n * k' ≤ c * k' := Nat.mul_le_mul_right _ g1.2.1
        refine hrv.load (base := e * k') a1 ?_ (by rw [hk]; omega)
        rw [hk, ← flat_get (fun x hx => (g1.2.2.2.1 x hx).1) (i := e) (x := L[e]) (by simp [hel]), ← a3, List.drop_take, List.take_take, Nat.min_eq_left (by omega)]
      · exact h.elim
    · rename_i p n c e k o
      obtain ⟨α, enc, L, hm, hen, h⟩ := h.h
      obtain ⟨f1, f2, f3⟩ := hr.hold _ hm
      have hel : e < L.length := by omega
      obtain ⟨r, hrv, h⟩ := readAt_ok (h L[e] (by simp [hel]))
      refine ⟨r, [], h, fun w' hr' => ?_⟩
      obtain ⟨f1', f2', f3'⟩ := hr'.hold _ hm
      obtain ⟨b, off, cs, t, fz, c1, c2, c3, c4, c5⟩ := f3'.cell hen
      have hx : E _ = .pointer (some ⟨b, off + (e * k + o), none⟩) := hv.trans (elp_some c1)
      refine ⟨x_loadV hx ?_, hold0 _⟩
      have hk : (enc L[e]).length = k := (f1 _ (List.getElem_mem hel)).1
      rw [← Nat.add_assoc]
      refine hrv.load c2 ?_ (by rw [hk]; omega)
      rw [hk, c4]
      exact flat_get (fun x hx => (f1 x hx).1) (by simp [hel])
    · rename_i b o
      obtain ⟨cs, t, hm, h⟩ := h.h
      obtain ⟨r, hrv, hh⟩ := readAt_ok h; clear h; have h := hh; clear hh
      refine ⟨r, [], h, fun w' hr' => ⟨x_loadV hv ?_, hold0 _⟩⟩
      have := hrv.load (w := w') (base := 0) (hr'.hold _ hm).2 (by rw [List.drop_zero, List.take_of_length_le (by simp [dens_length])]) (by simp [dens_length])
      rwa [Nat.zero_add] at this
    · exact h.elim
  · -- indexAddr
    obtain ⟨v, hv, hh⟩ := evS_ok he h; clear h; have h := hh; clear hh
    obtain ⟨iv, hiv, hh⟩ := evS_ok he h; clear h; have h := hh; clear hh
    split at h
    · rename_i kd ei
      obtain ⟨j, rfl, hh⟩ := h.ok; clear h; have h := hh; clear hh
      obtain ⟨e, inf, h1, h2, hh⟩ := elemSize_ok h; clear h; have h := hh; clear hh
      split at h
      · rename_i p n c
        obtain ⟨⟨α, enc, L, hm⟩, hob⟩ := h
        refine ⟨_, [], hob.next, fun w' hr' => ⟨?_, hold0 _⟩⟩
        obtain ⟨b, off, hp⟩ := (hr'.hold _ hm).2.2.row hob.here
        subst hp
        have := x_indexAt (P := P) (w := w') (d := d) (ty := ty) (pos := pos) (af := af) (g := g) h1 h2 hv hiv hob.here
        simp only [Yd, this, SV.den, ptrAt]
        simp [addr_add]
      · rename_i i p n c
        split at h
        · rename_i b' α enc k' t p' n' c' L hi
          obtain ⟨⟨rfl, rfl, rfl, rfl, hj⟩, h⟩ := h
          refine ⟨_, [], h, fun w' hr' => ⟨?_, hold0 _⟩⟩
          obtain ⟨g1, _⟩ := hr'.vec hi
          have hp := g1.2.2.2.2.1 (by omega)
          subst hp
          have := x_indexAt (P := P) (w := w') (d := d) (ty := ty) (pos := pos) (af := af) (g := g) h1 h2 hv hiv hj
          simp only [Yd, this, SV.den]
          simp [addr_add]
        · exact h.elim
      · exact h.elim
    · exact h.elim
  · -- index
    obtain ⟨v, hv, hh⟩ := evS_ok he h; clear h; have h := hh; clear hh
    obtain ⟨iv, hiv, hh⟩ := evS_ok he h; clear h; have h := hh; clear hh
    split at h
    · rename_i s kd ei
      split at h
      · rename_i ht
        obtain ⟨j, rfl, hh⟩ := h.ok; clear h; have h := hh; clear hh
        obtain ⟨hj, h⟩ := h
        have hs : s[j]? = some s[j] := by simp [hj]
        exact ⟨_, [], h _ hs (by have := UInt8.toNat_lt s[j]; omega), fun w' _ => ⟨x_indexS (fun w => tUnd ht w) hv hiv hs, hold0 _⟩⟩
      · exact h.elim
    · exact h.elim
  · -- slice
    obtain ⟨v, hv, hh⟩ := evS_ok he h; clear h; have h := hh; clear hh
    split at h
    · rename_i s
      split at h
      · rename_i ht
        obtain ⟨a, ha, hh⟩ := bnd_ok he h; clear h; have h := hh; clear hh
        obtain ⟨b, hb, hh⟩ := bnd_ok he h; clear h; have h := hh; clear hh
        exact ⟨_, [], h.next, fun w' _ => ⟨x_sliceS (fun w => tUnd ht w) hv ha hb h.here.1 h.here.2, hold0 _⟩⟩
      · exact h.elim
    · rename_i p n c
      split at h
      · exact h.elim
      rename_i hmx3
      obtain ⟨e, inf, h1, h2, hh⟩ := elemSize_ok h; clear h; have h := hh; clear hh
      obtain ⟨a, ha, hh⟩ := bnd_ok he h; clear h; have h := hh; clear hh
      obtain ⟨b, hb, hh⟩ := bnd_ok he h; clear h; have h := hh; clear hh
      obtain ⟨m, hm, hh⟩ := bnd_ok he h; clear h; have h := hh; clear hh
      obtain ⟨α, enc, L, hmem, l1, l2, l3, l4, h⟩ := h.h
      have hcap := (hr.hold _ hmem).2.2.cap
      replace l4 : m ≤ c := by omega
      replace l3 : b ≤ m := by omega
      refine ⟨_, _, h _, fun w' hr' => ⟨x_sliceSl h1 h2 hv ha hb hm ?_ l1 l2 l3 l4, ?_⟩⟩
      · intro h3
        rw [h3] at hmx3
        simpa using hmx3
      · intro A hA
        refine Hold.cons ?_ Hold.nil
        obtain ⟨f1, f2, f3⟩ := hA _ hmem
        refine ⟨fun x hx => f1 x (List.mem_of_mem_take (List.mem_of_mem_drop hx)), by simp; omega, ?_⟩
        rw [flat_drop (fun x hx => (f1 x (List.mem_of_mem_take hx)).1), flat_take (fun x hx => (f1 x hx).1)]
        exact f3.part l1 l2 l3 l4
    · exact h.elim
  · -- build
    rename_i T parts
    split at h
    · rename_i i fs hi hfs
      split at h
      · rename_i z hz hall
        rw [ofLK_eq] at h
        obtain ⟨cs', hk, hfl⟩ := buildK_ok he h
        refine ⟨_, [], hk, fun w' _ => ⟨x_build (ps := parts.toList.map fun p => (p.1, E p.2)) rfl ?_, hold0 _⟩⟩
        intro w
        have hpl := run_places (P := P) hall w
        rw [dens_ofA] at hfl
        have hpl2 : (fs.mapM (fun f => (do pure (f.offset, ← Go.sizeOf f.type) : Sem (Nat × Nat)))).run P w = .ok (fs.toList.map fun f => (f.offset, ((P.info? f.type).map (·.size)).getD 0)).toArray w := by
          have : fs = fs.toList.toArray := by simp
          rw [this, List.mapM_toArray, map_eq_pure_bind, Sem.run_bind, hpl]
          simp [Result.andThen]
        simp only [Instr.build, Sem.run_bind, tZero hi hz, Result.andThen, tUnd hfs, hpl2]
        simp only [Array.toArray_toList] at hfl
        rw [hfl]
        simp [SV.den]
      · exact h.elim
    · exact h.elim
  · -- typeAssert
    obtain ⟨v, hv, hh⟩ := evS_ok he h; clear h; have h := hh; clear hh
    have fails : ∀ {xv : Value} {ok : Bool} {s t : TypeId} {q : SV → Prop} (_ : ∀ (z : Value) w, (zeroValue t).run P w = .ok z w → ok = true → (Instr.typeAssert xv s t ok).run P w = .ok (.tuple #[z, .bool false]) w), failsK P ok t q →
        ∃ r, q r ∧ ∀ w, (Instr.typeAssert xv s t ok).run P w = .ok r.den w := by
      intro xv ok s t q hf hk
      unfold failsK at hk
      split at hk
      · rename_i i hi
        split at hk
        · rename_i z hz
          rw [ofVK_eq] at hk
          refine ⟨_, hk, fun w => ?_⟩
          rw [hf z w (tZero hi hz w) rfl]
          simp [SV.den, dens, den_ofV]
        · exact hk.elim
      · exact hk.elim
    split at h
    · rename_i u v'
      split at h
      · rename_i want hu
        split at h
        · rename_i i hi
          rw [← missing_isNone] at h
          cases hm : (Instr.missingMethod want i.methods).isNone with
          | true =>
            have h := h.t hm
            have hm' : Instr.missingMethod want i.methods = none := by simpa using hm
            unfold holdsK at h
            split at h
            · exact ⟨_, [], h, fun w' _ => ⟨x_assert hv (by simp [Instr.typeAssert, SV.den, tUnd hu, tInfo hi, hm', Result.andThen, dens]), hold0 _⟩⟩
            · exact ⟨_, [], h, fun w' _ => ⟨x_assert hv (by simp [Instr.typeAssert, SV.den, tUnd hu, tInfo hi, hm', Result.andThen]), hold0 _⟩⟩
          | false =>
            have h := h.f hm
            obtain ⟨m, hm'⟩ : ∃ m, Instr.missingMethod want i.methods = some m := by
              cases hq : Instr.missingMethod want i.methods with
              | none => rw [hq] at hm; cases hm
              | some m => exact ⟨m, rfl⟩
            obtain ⟨r, hq, hr'⟩ := fails (xv := (SV.iface u v').den) (s := _) (fun z w hz hok => by subst hok; simp [Instr.typeAssert, SV.den, tUnd hu, tInfo hi, hm', Result.andThen, hz]) h
            exact ⟨r, [], hq, fun w' _ => ⟨x_assert hv (hr' w'), hold0 _⟩⟩
        · exact h.elim
      · rename_i dd hdd hu
        split at h
        · rename_i hb
          have hb' := Nat.eq_of_beq_eq_true hb
          subst hb'
          unfold holdsK at h
          split at h
          · refine ⟨_, [], h, fun w' _ => ⟨x_assert hv ?_, hold0 _⟩⟩
            cases dd <;> first | exact absurd rfl (hdd _) | simp [Instr.typeAssert, SV.den, tUnd hu, Result.andThen, dens]
          · refine ⟨_, [], h, fun w' _ => ⟨x_assert hv ?_, hold0 _⟩⟩
            cases dd <;> first | exact absurd rfl (hdd _) | simp [Instr.typeAssert, SV.den, tUnd hu, Result.andThen]
        · rename_i hb
          have hb' := Nat.ne_of_beq_eq_false hb
          obtain ⟨r, hq, hr'⟩ := fails (xv := (SV.iface u v').den) (s := _) (fun z w hz hok => by
            subst hok
            cases dd <;> first | exact absurd rfl (hdd _) | simp [Instr.typeAssert, SV.den, tUnd hu, Result.andThen, hz, hb']) h
          exact ⟨r, [], hq, fun w' _ => ⟨x_assert hv (hr' w'), hold0 _⟩⟩
      · exact h.elim
    · split at h
      · rename_i dd hu
        obtain ⟨r, hq, hr'⟩ := fails (xv := .nilIface) (s := _) (fun z w hz hok => by
          subst hok
          cases dd <;> simp [Instr.typeAssert, tUnd hu, Result.andThen, hz]) h
        exact ⟨r, [], hq, fun w' _ => ⟨x_assert hv (hr' w'), hold0 _⟩⟩
      · exact h.elim
    · exact h.elim
  · -- len
    split at h
    · rename_i x u hx hu
      obtain ⟨v, hv, hh⟩ := evS_ok he h; clear h; have h := hh; clear hh
      have e1 := toList_two hx
      have e2 := toList_two hu
      subst e1 e2
      split at h
      · rename_i ht
        exact ⟨_, [], h, fun w' _ => ⟨x_len ht hv (.inl ⟨_, rfl, rfl, rfl⟩), hold0 _⟩⟩
      · rename_i ht
        exact ⟨_, [], h, fun w' _ => ⟨x_len ht hv (.inr ⟨_, _, _, rfl, rfl⟩), hold0 _⟩⟩
      · rename_i ht
        exact ⟨_, [], h, fun w' _ => ⟨x_len ht hv (.inr ⟨_, _, _, rfl, rfl⟩), hold0 _⟩⟩
      · exact h.elim
    · exact h.elim
  · -- cap
    split at h
    · rename_i x u hx hu
      obtain ⟨v, hv, hh⟩ := evS_ok he h; clear h; have h := hh; clear hh
      have e1 := toList_two hx
      have e2 := toList_two hu
      subst e1 e2
      split at h
      · rename_i ht
        exact ⟨_, [], h, fun w' _ => ⟨x_cap ht hv, hold0 _⟩⟩
      · rename_i ht
        exact ⟨_, [], h, fun w' _ => ⟨x_cap ht hv, hold0 _⟩⟩
      · exact h.elim
    · exact h.elim
  · -- min
    split at h
    · rename_i x y hx
      have e1 := toList_two hx
      subst e1
      obtain ⟨u, hu, hh⟩ := evS_ok he h; clear h; have h := hh; clear hh
      obtain ⟨v, hv, hh⟩ := evS_ok he h; clear h; have h := hh; clear hh
      split at h
      · rename_i k m k' n
        split at h
        · rename_i hk
          obtain rfl : k = k' := by simpa using hk
          exact ⟨_, [], h, fun w' _ => ⟨x_min hu hv (min_if _ _), hold0 _⟩⟩
        · exact h.elim
      · exact h.elim
    · exact h.elim
  · -- max
    split at h
    · rename_i x y hx
      have e1 := toList_two hx
      subst e1
      obtain ⟨u, hu, hh⟩ := evS_ok he h; clear h; have h := hh; clear hh
      obtain ⟨v, hv, hh⟩ := evS_ok he h; clear h; have h := hh; clear hh
      split at h
      · rename_i k m k' n
        split at h
        · rename_i hk
          obtain rfl : k = k' := by simpa using hk
          exact ⟨_, [], h, fun w' _ => ⟨x_max hu hv (max_if _ _), hold0 _⟩⟩
        · exact h.elim
      · exact h.elim
    · rename_i x y z hx
      have e1 := toList_two hx
      subst e1
      obtain ⟨u, hu, hh⟩ := evS_ok he h; clear h; have h := hh; clear hh
      obtain ⟨v, hv, hh⟩ := evS_ok he h; clear h; have h := hh; clear hh
      obtain ⟨r, hr3, hh⟩ := evS_ok he h; clear h; have h := hh; clear hh
      split at h
      · rename_i k m k' n k2 o
        split at h
        · rename_i hk
          obtain ⟨h1, h2⟩ : k = k' ∧ k = k2 := by simpa using hk
          subst h1 h2
          exact ⟨_, [], h, fun w' _ => ⟨x_max3 hu hv hr3 (by rw [max_if, max_if]), hold0 _⟩⟩
        · exact h.elim
      · exact h.elim
    · exact h.elim
  · exact h.elim
end Go.Proofs.YtikjigkkhdkibaaGreatDoor.W

/- The operations that do something, lists of operations, code. Over any program. -/
namespace Go.Proofs.YtikjigkkhdkibaaGreatDoor.W
open Go.RowKit
section
variable (P : Program)
def lenK {α : Type _} : List α → Nat → (Nat → Prop) → Prop
  | [], n, k => k n
  | _ :: l, n, k => lenK l (Nat.succ n) k
theorem lenK_eq {α : Type _} {l : List α} {n : Nat} {k : Nat → Prop} : lenK l n k = k (n + l.length) := by
  induction l generalizing n with
  | nil => rfl
  | cons x l ih => simp only [lenK, ih, List.length_cons]; congr 1; omega
/-- which blocks of one's own may turn: all (none), or these -/
abbrev Kp := Option (List Nat)
def memN (t : Nat) : List Nat → Bool
  | [] => false
  | u :: r => match Nat.beq u t with
    | true => true
    | false => memN t r
theorem memN_ok {t : Nat} {l : List Nat} (h : memN t l = true) : t ∈ l := by
  induction l with
  | nil => cases h
  | cons u r ih =>
    unfold memN at h
    split at h
    · rename_i hb
      rw [Nat.eq_of_beq_eq_true hb]; exact List.mem_cons_self
    · exact List.mem_cons_of_mem _ (ih h)
def okKp : Kp → Nat → Bool
  | none, _ => true
  | some mk, j => memN j mk
/-- the blocks of these numbers -/
def MkOf (lb : LBs) (mk : List Nat) : Nat → Prop := fun b => ∃ i ∈ mk, ∃ e, nth lb i = some e ∧ (ent e).real ∧ (ent e).b = b
def KeptQ (kp : Kp) (lb : LBs) (w w' : World) : Prop :=
  match kp with
  | none => True
  | some mk => Kept (MkOf lb mk) w w'
theorem KeptQ.of {kp : Kp} {lb : LBs} {w w' : World} (h : Kept No w w') : KeptQ kp lb w w' := by
  cases kp with
  | none => trivial
  | some mk => exact h.weaken fun _ _ h => h.elim
theorem KeptQ.at {kp : Kp} {lb : LBs} {w w' : World} {j : Nat} {e : Nat × OB} (ho : okKp kp j = true) (hj : nth lb j = some e) (hr : (ent e).real) (h : Kept (· = (ent e).b) w w') : KeptQ kp lb w w' := by
  cases kp with
  | none => trivial
  | some mk => exact h.weaken fun b _ hb => ⟨j, memN_ok ho, e, hj, hr, hb.symm⟩
/-- what is yielded -/
structure YdX (xs : List PubI) (n : Nat) (vs : List SV) (Φ : Facts) : Prop where
  h : ∃ I y, xs[n]? = some I ∧ I.pr y ∧ dens vs = dens (I.enc y) ∧ ∀ F ∈ I.fs y, F ∈ Φ
theorem YdX.fix {X : List (List SV)} {n : Nat} {vs : List SV} {Φ : Facts} (h : (X.map dens)[n]? = some (dens vs)) : YdX (fixd X) n vs Φ := by
  rw [List.getElem?_map, Option.map_eq_some_iff] at h
  obtain ⟨v, h1, h2⟩ := h
  exact ⟨pubV v, (), by rw [fixd, List.getElem?_map, h1]; rfl, trivial, h2.symm, fun _ h => nomatch h⟩
/-- an operation, by what it is shown to do -/
structure SemO (kp : Kp) (op : Op) (ty : TypeId) (env : Env) (lb : LBs) (Φ : Facts) (q : SV → LBs → Facts → Prop) : Prop where
  h : ∀ (E : Operand → Value) (d : Option Tmp) (pos : String) (af : Array Edge) (g : Option (Nat × Bool)) (ω : Amb) (w : World), EvOk E env → Rel P lb Φ ω w →
    ∃ v lb' Φ' nx w', q v lb' Φ' ∧ (execOp E ⟨d, op, ty, pos, af, g⟩).run P w = .ok nx w' ∧ (nx = .value v.den ∨ nx = .skip ∧ v = .undef) ∧ Rel P lb' Φ' ω w' ∧ KeptQ kp lb w w'
/-- a call, by what it is shown to do -/
structure CallS (kp : Kp) (f : FuncId) (args : List SV) (lb : LBs) (Φ : Facts) (q : SV → LBs → Facts → Prop) : Prop where
  h : ∀ (ω : Amb) (w : World), Rel P lb Φ ω w → Calls P f (dens args).toArray w fun e w' => ∃ v lb' Φ', e = .returned v.den ∧ q v lb' Φ' ∧ Rel P lb' Φ' ω w' ∧ KeptQ kp lb w w'
def isFn (f : FuncId) : Prop := ∀ args w, (callFunc f args).run P w = .ok (.enter f args) w
/-- a call of f: it has a body, or it is one that the model does by itself -/
structure CallK (kp : Kp) (f : FuncId) (args : List SV) (lb : LBs) (Φ : Facts) (q : SV → LBs → Facts → Prop) : Prop where
  h : (isFn P f ∧ CallS P kp f args lb Φ q) ∨ ∃ v, q v lb Φ ∧ ∀ w, ∃ w', (callFunc f (dens args).toArray).run P w = .ok (.value v.den) w' ∧ Kept No w w'
/-- the method that an interface's value has -/
structure InvK (t : TypeId) (name : String) (v : SV) (q : FuncId → SV → Prop) : Prop where
  h : ∃ f r, q f r ∧ ∀ w, (Go.method (P.types.size + Made.depth) t v.den name).run P w = .ok (f, r.den) w
noncomputable def wpO (kp : Kp) (op : Op) (ty : TypeId) (env : Env) (lb : LBs) (Φ : Facts) (q : SV → LBs → Facts → Prop) : Prop :=
  match op with
  | .alloc T => match P.info? T with
    | some i => match i.zero with
      | some z => ∀ b, ofLK z.cells.toList fun cs => appK lb [(b, .cells cs T)] fun lb' => lenK lb 0 fun n => q (.own n b 0) lb' Φ
      | none => False
    | none => False
  | .box T x => evS env x fun v => ∀ b, cellsK v fun cs => appK lb [(b, .cells cs T)] fun lb' => lenK lb 0 fun n => q (.own n b 0) lb' Φ
  | .store T x y => evS env x fun p => evS env y fun v => match P.info? T with
    | some i => match p with
      | .own j b o => match okKp kp j, nth lb j with
        | true, some (b', .cells cs t) => Ob (b' = b) (cellsK v fun vs => match Nat.beq i.size vs.length && vs.all oneS with
          | true => updK cs o vs fun cs' => setK lb j (b', .cells cs' t) fun lb' => q .undef lb' Φ
          | false => False)
        | _, _ => False
      | _ => SemO P kp op ty env lb Φ q
    | none => False
  | .call ⟨.value f, xs, _⟩ => evS env f fun fv => arrK xs fun xs => evL env xs fun vs => match fv with
    | .fn f fs cs => appK vs cs fun r => appK fs r fun l => CallK P kp f l lb Φ q
    | .yld lp => match kp, lb with
      | none, (b0, .seq lp' xs (some n)) :: lb => Ob (lp' = lp ∧ YdX xs n vs Φ) (q (.bool true) ((b0, .seq lp' xs (some (n + 1))) :: lb) Φ ∧ q (.bool false) ((b0, .seq lp' xs none) :: lb) Φ)
      | _, _ => False
    | _ => False
  | .call ⟨.invoke x name, xs, _⟩ => evS env x fun rv => arrK xs fun xs => evL env xs fun vs => match rv with
    | .iface t v => InvK P t name v fun f r => CallK P kp f (r :: vs) lb Φ q
    | _ => False
  | .convert s t x => evS env x fun v => match v with
    | .int _ _ => pv P env lb Φ (.convert s t x) fun v fs => appK fs Φ fun Φ' => q v lb Φ'
    | _ => SemO P kp (.convert s t x) ty env lb Φ q
  | .slice T x lo hi mx => evS env x fun v => match v with
    | .vec _ _ _ _ => SemO P kp (.slice T x lo hi mx) ty env lb Φ q
    | _ => pv P env lb Φ (.slice T x lo hi mx) fun v fs => appK fs Φ fun Φ' => q v lb Φ'
  | .call ⟨.builtin .len, _, _⟩ | .call ⟨.builtin .cap, _, _⟩ | .call ⟨.builtin .min, _, _⟩ | .call ⟨.builtin .max, _, _⟩ => pv P env lb Φ op fun v fs => appK fs Φ fun Φ' => q v lb Φ'
  | .call _ | .buildSlice .. | .makeSlice .. | .mapUpdate .. | .insert .. | .makeMap .. | .lookup .. | .range .. | .next .. | .entry .. | .mapEntry .. | .entryStore .. | .sliceToArrayPointer .. => SemO P kp op ty env lb Φ q
  | op => pv P env lb Φ op fun v fs => appK fs Φ fun Φ' => q v lb Φ'
def putE (nt : Nat) (env : Env) (d : Option Tmp) (v : SV) (q : Env → Prop) : Prop :=
  match d with
  | none => q env
  | some d => match Nat.blt d nt with
    | true => q ((d, v) :: env)
    | false => False
/-- is an operation wanted? -/
def gd (ops : List Oper) (env : Env) (g : Option (Nat × Bool)) (yes no : Prop) : Prop :=
  match g with
  | none => yes
  | some (j, b) => match nth ops j with
    | none => no
    | some o => match o.dst with
      | none => no
      | some t => match lkp env t with
        | some (.bool c) => match b with
          | true => BR c yes no
          | false => BR c no yes
        | some .undef => no
        | _ => False
noncomputable def wpL (nt : Nat) (ops l : List Oper) : Env → LBs → Facts → (Env → LBs → Facts → Prop) → Prop :=
  List.rec (motive := fun _ => Env → LBs → Facts → (Env → LBs → Facts → Prop) → Prop) (fun env lb Φ K => K env lb Φ)
    (fun o _ ih env lb Φ K => gd ops env o.guard (wpO P none o.op o.type env lb Φ fun v lb Φ => putE nt env o.dst v fun env => ih env lb Φ K) (putE nt env o.dst .undef fun env => ih env lb Φ K)) l
end

/-! ### that it is so -/
/-- a list of operations, in this order; behind it K -/
def Ops (P : Program) (ro : Option Nat) (ops : Array Oper) (l : List Oper) (a : Act) (w : World) (K : Act → World → Prop) : Prop :=
  wpListIn (FW ro) 0 P ops (fun e a w => match e with | .normal => K a w | _ => False) l a w
/-- a frame, and what is known of its slots -/
structure RA (nt : Nat) (env : Env) (ds : List Deferred) (a : Act) : Prop where
  size : a.tmps.size = nt
  slot : ∀ t v, lkp env t = some v → a.tmps.getD t Go.undef = v.den
  defs : a.defers = ds
variable {P : Program} {nt : Nat} {env : Env} {ds : List Deferred} {a : Act} {w : World}
theorem RA.ev (h : RA nt env ds a) : EvOk a.eval env where
  tmp t v hv := by
    have := h.slot t v hv
    simpa [Act.eval, Go.undef] using this
  const _ := rfl
  glob _ := rfl
  func _ := rfl
theorem RA.put (h : RA nt env ds a) {d : Option Tmp} {v : SV} {q : Env → Prop} (hq : putE nt env d v q) : ∃ env', RA nt env' ds (a.put d v.den) ∧ q env' := by
  unfold putE at hq
  split at hq
  · exact ⟨env, h, hq⟩
  · rename_i d
    split at hq
    · rename_i hd
      have hd : d < nt := Nat.le_of_ble_eq_true hd
      refine ⟨_, ⟨?_, ?_, h.defs⟩, hq⟩
      · simp [Act.put, h.size]
      · intro t u hu
        unfold lkp at hu
        split at hu
        · rename_i hb
          have e : d = t := Nat.eq_of_beq_eq_true hb
          subst e
          cases hu
          simp [Act.put, Array.getD_eq_getD_getElem?, h.size, hd]
        · rename_i hb
          have e : d ≠ t := Nat.ne_of_beq_eq_false hb
          have := h.slot t u hu
          simp only [Act.put, Array.getD_eq_getD_getElem?] at this ⊢
          rw [Array.getElem?_setIfInBounds_ne e]
          exact this
    · exact hq.elim
theorem wanted_ok (h : RA nt env ds a) {ops : List Oper} {o : Oper} {yes no : Prop} (hg : gd ops env o.guard yes no) :
    (Region.wanted o (yielded ops.toArray a.tmps) = true ∧ yes) ∨ (Region.wanted o (yielded ops.toArray a.tmps) = false ∧ no) := by
  unfold gd at hg
  unfold Region.wanted yielded
  split at hg
  · rename_i e; rw [e]; exact .inl ⟨rfl, hg⟩
  · rename_i j b e
    rw [e]
    simp only [List.getElem?_toArray, ← nth_eq]
    split at hg
    · rename_i e1; rw [e1]; exact .inr ⟨rfl, hg⟩
    · rename_i o' e1
      rw [e1]
      simp only [Option.bind_some]
      split at hg
      · rename_i e2; rw [e2]; exact .inr ⟨rfl, hg⟩
      · rename_i t e2
        rw [e2]
        simp only [Option.bind_some]
        split at hg
        · rename_i c e3
          have h3 := h.slot _ _ e3
          rw [Array.getD_eq_getD_getElem?] at h3
          cases h4 : a.tmps[t]? with
          | none => rw [h4] at h3; cases h3
          | some u =>
            rw [h4] at h3
            obtain rfl : u = .bool c := h3
            cases c <;> cases b <;> first
              | exact .inl ⟨rfl, hg.t rfl⟩
              | exact .inl ⟨rfl, hg.f rfl⟩
              | exact .inr ⟨rfl, hg.t rfl⟩
              | exact .inr ⟨rfl, hg.f rfl⟩
        · rename_i e3
          have h3 := h.slot _ _ e3
          rw [Array.getD_eq_getD_getElem?] at h3
          cases h4 : a.tmps[t]? with
          | none => exact .inr ⟨rfl, hg⟩
          | some u =>
            rw [h4] at h3
            obtain rfl : u = Go.undef := h3
            exact .inr ⟨rfl, hg⟩
        · exact hg.elim
section
variable {ro : Option Nat} {ops : Array Oper} {rest : List Oper} {K : Act → World → Prop}
theorem o_next {o : Oper} {nx : Next} {v : Value} {w' : World} (hw : Region.wanted o (yielded ops a.tmps) = true) (hd : ∀ c, o.op ≠ .defer c) (hr : (execOp a.eval o).run P w = .ok nx w') (hn : nx = .value v ∨ nx = .skip ∧ v = Go.undef)
    (h : Ops P ro ops rest (a.put o.dst v) w' K) : Ops P ro ops (o :: rest) a w K := by
  have hs : o.semAt ro a.eval = execOp a.eval o := by
    cases ro with
    | none => rfl
    | some r => exact Oper.semAt_some r _ _ hd
  unfold Ops wpListIn
  rw [if_pos hw]
  refine ⟨fun _ _ => trivial, ?_⟩
  rw [FW_round, hs, hr]
  rcases hn with rfl | ⟨rfl, rfl⟩ <;> exact h
theorem o_skip {o : Oper} (hw : Region.wanted o (yielded ops a.tmps) = false) (h : Ops P ro ops rest (a.put o.dst Go.undef) w K) : Ops P ro ops (o :: rest) a w K := by
  unfold Ops wpListIn
  rw [if_neg (by rw [hw]; simp)]
  exact ⟨fun _ _ => trivial, h⟩
theorem o_call {o : Oper} {f : FuncId} {args : Array Value} {R : Ending → World → Prop} (hw : Region.wanted o (yielded ops a.tmps) = true) (hd : ∀ c, o.op ≠ .defer c)
    (hr : (execOp a.eval o).run P w = .ok (.enter f args) w) (hc : Calls P f args w R)
    (h : ∀ e w', R e w' → ∃ v, e = .returned v ∧ Ops P ro ops rest (a.put o.dst v) w' K) : Ops P ro ops (o :: rest) a w K := by
  have hs : o.semAt ro a.eval = execOp a.eval o := by
    cases ro with
    | none => rfl
    | some r => exact Oper.semAt_some r _ _ hd
  unfold Ops wpListIn
  rw [if_pos hw]
  refine ⟨fun _ _ => trivial, ?_⟩
  rw [FW_round, hs, hr]
  refine ⟨fun h => (by cases h), callsIn_FW (Calls.mono hc ?_)⟩
  intro e w' he
  obtain ⟨v, rfl, hv⟩ := h e w' he
  exact hv
theorem o_round {o : Oper} {lp : Nat} {args : Array Value} {R : Bool → World → Prop} (hw : Region.wanted o (yielded ops a.tmps) = true) (hd : ∀ c, o.op ≠ .defer c)
    (hr : (execOp a.eval o).run P w = (Instr.yield lp args).run P w) (hy : YR P lp args w R) (h : ∀ b w', R b w' → Ops P ro ops rest (a.put o.dst (.bool b)) w' K) : Ops P ro ops (o :: rest) a w K := by
  obtain ⟨fn, tmps, assign, body, h1, h2⟩ := hy
  have hs : o.semAt ro a.eval = execOp a.eval o := by
    cases ro with
    | none => rfl
    | some r => exact Oper.semAt_some r _ _ hd
  unfold Ops wpListIn
  rw [if_pos hw]
  refine ⟨fun _ _ => trivial, ?_⟩
  rw [FW_round, hs, hr, h1]
  refine ⟨fun h => (by cases h), RoundIn.mono (show RoundIn (FW ro) 0 P lp fn tmps assign body w _ from h2) ?_⟩
  rintro e W' ⟨b, rfl, hR⟩
  exact h b W' hR
end
theorem pv_nodefer {lb : LBs} {Φ : Facts} {op : Op} {q : SV → Facts → Prop} (h : pv P env lb Φ op q) (c : Call) : op ≠ .defer c := by
  rintro rfl
  exact h
end Go.Proofs.YtikjigkkhdkibaaGreatDoor.W

/- That lists of operations do what was said. Over any program. -/
namespace Go.Proofs.YtikjigkkhdkibaaGreatDoor.W
open Go.RowKit
variable {P : Program} {nt : Nat} {env : Env} {ds : List Deferred} {a : Act} {w : World}
variable {lb : LBs} {Φ : Facts} {ω : Amb}
theorem dens_cellsOf (v : SV) : dens (cellsOf v) = v.den.cells.toList := by
  cases v with
  | agg l => simp [cellsOf, SV.den, Value.cells]
  | raw v => simp [cellsOf, SV.den, dens_ofA]
  | _ => rfl
theorem nth_snoc {lb : LBs} {x : Nat × OB} {i : Nat} {e : Nat × OB} (h : nth (lb ++ [x]) i = some e) : nth lb i = some e ∨ e = x := by
  rw [nth_eq] at h ⊢
  rcases get_snoc h with h | ⟨_, h⟩
  · exact .inl h
  · exact .inr h
theorem nth_set {lb : LBs} {j : Nat} {x y : Nat × OB} {i : Nat} {e : Nat × OB} (hj : nth lb j = some y) (h : nth (lb.set j x) i = some e) : nth lb i = some e ∨ e = x := by
  rw [nth_eq] at h hj ⊢
  rcases get_set hj h with ⟨_, h⟩ | ⟨_, h⟩
  · exact .inr h
  · exact .inl h
theorem Rel.alloc (h : Rel P lb Φ ω w) {o : Obj} {b : OB} (hn : ∀ lp xs s, b ≠ .seq lp xs s) (hb : (ent (w.heap.size, b)).b = w.heap.size) (hx : (ent (w.heap.size, b)).pd o) (hp : (ent (w.heap.size, b)).pure) : Rel P (lb ++ [(w.heap.size, b)]) Φ ω (w.alloc o) := by
  refine h.move ?_ ?_ ?_ (Kept.alloc _ _ _) ?_
  · rw [sem_snoc]; exact h.st.alloc o hb hx hp
  · rw [sem_snoc]; exact h.hold.kp (KP.trω (Tr.alloc w _ o hb))
  · rw [sem_snoc]; exact Tr.alloc w _ o hb
  · intro b' lp xs s hi
    rcases nth_snoc hi with hi | hi
    · exact hi
    · cases hi; exact absurd rfl (hn lp xs s)
theorem oneS_ok {l : List SV} (h : l.all oneS = true) : ∀ v ∈ dens l, one v = true := by
  intro v hv
  rw [dens_map] at hv
  obtain ⟨s, hs, rfl⟩ := List.mem_map.1 hv
  have := List.all_eq_true.1 h s hs
  cases s <;> first | rfl | (exact this) | (cases this; done) | (simp [SV.den, ptrAt, one]; done)
theorem dens_updS (l : List SV) (o : Nat) (vs : List SV) : dens (updS l o vs) = upd (dens l) o (dens vs) := by
  simp [updS, upd, dens_append, dens_length]
  simp [dens_map]
theorem Rel.notMu (h : Rel P lb Φ ω w) {j : Nat} {e : Nat × OB} (hj : nth lb j = some e) (hr : (ent e).real) : ¬ ω.Mu.1 (ent e).b ∧ ¬ ω.Mu.2 (ent e).b := ⟨fun hm => (h.mu _ (.inl hm)).2 _ _ (sem_get hj) hr rfl, fun hm => (h.mu _ (.inr hm)).2 _ _ (sem_get hj) hr rfl⟩
/-- one of the own blocks has turned -/
theorem Rel.turn (h : Rel P lb Φ ω w) {w' : World} {j : Nat} {x y : Nat × OB} (hj : nth lb j = some y) (hn : ∀ lp xs s, x.2 ≠ .seq lp xs s) (hy : (ent y).real) (hk : Kept (· = (ent y).b) w w') (hb : (ent x).b = (ent y).b) (hx : ∃ o, w'.heap[(ent y).b]? = some o ∧ (ent x).pd o) (hp : (ent x).pure) : Rel P (lb.set j x) Φ ω w' := by
  have hg := sem_get hj
  refine h.move ?_ ?_ ?_ (hk.weaken fun k _ e => by subst e; exact h.notMu hj hy) ?_
  · rw [sem_set]; exact h.st.turnBy hg hy hk hb hx hp
  · rw [sem_set]; exact h.hold.kp (KP.trω (Tr.turnBy hg hy hb hk))
  · rw [sem_set]; exact Tr.turnBy hg hy hb hk
  · intro b' lp xs s hi
    rcases nth_set hj hi with hi | hi
    · exact hi
    · exact absurd (congrArg Prod.snd hi).symm (hn lp xs s)
theorem Rel.store (h : Rel P lb Φ ω w) {j b o : Nat} {cs vs : List SV} {t : TypeId} (hj : nth lb j = some (b, .cells cs t)) (hl : o + vs.length ≤ cs.length) (ho : vs.all oneS = true) :
    ∃ w', (storeCells ⟨b, o, none⟩ (dens vs) 0).run P w = .ok () w' ∧ Rel P (lb.set j (b, .cells (updS cs o vs) t)) Φ ω w' ∧ Kept (· = b) w w' := by
  have hb := h.cells hj
  obtain ⟨w', h1, h2, h3⟩ := run_storeCells (P := P) (dens vs) o 0 _ w hb (Thaw.zero _) (by simpa [dens_length] using hl) (oneS_ok ho)
  refine ⟨w', h1, h.turn hj (fun _ _ _ h => by cases h) trivial h3 rfl ⟨_, h2, ?_⟩ trivial, h3⟩
  show (_ : Obj) = _
  rw [dens_updS]; simp
theorem fn_call {E : Operand → Value} {f : FuncId} {cf : Operand} {xs : Array Operand} {ts : Array TypeId} {ty : TypeId} {d : Option Tmp} {pos : String} {af : Array Edge} {g : Option (Nat × Bool)} {us vs cs : List SV}
    (hf : E cf = (SV.fn f us cs).den) (hx : xs.toList.map E = dens vs) :
    (execOp E ⟨d, .call ⟨.value cf, xs, ts⟩, ty, pos, af, g⟩).run P w = (callFunc f (dens (us ++ vs ++ cs)).toArray).run P w := by
  have e1 : xs.map E = (dens vs).toArray := by apply Array.toList_inj.1; simp [← hx]
  have hf' : E cf = .func (.func f) (dens us).toArray (dens cs).toArray := hf
  simp [execOp, resolve, hf', Deferred.ofValue, invoke, e1, dens_append]
theorem inv_call {E : Operand → Value} {f : FuncId} {x : Operand} {name : String} {xs : Array Operand} {ts : Array TypeId} {ty : TypeId} {d : Option Tmp} {pos : String} {af : Array Edge} {g : Option (Nat × Bool)} {vs : List SV} {t : TypeId} {v r : SV}
    (hf : E x = (SV.iface t v).den) (hx : xs.toList.map E = dens vs) (hm : (Go.method (P.types.size + Made.depth) t v.den name).run P w = .ok (f, r.den) w) :
    (execOp E ⟨d, .call ⟨.invoke x name, xs, ts⟩, ty, pos, af, g⟩).run P w = (callFunc f (dens (r :: vs)).toArray).run P w := by
  have e1 : xs.map E = (dens vs).toArray := by apply Array.toList_inj.1; simp [← hx]
  have hf' : E x = .iface t v.den := hf
  simp [execOp, resolve, hf', invoke, callMethod, program, Sem.run, hm, e1, dens, Result.andThen]
theorem yield_call {E : Operand → Value} {lp : Nat} {cf : Operand} {xs : Array Operand} {ts : Array TypeId} {ty : TypeId} {d : Option Tmp} {pos : String} {af : Array Edge} {g : Option (Nat × Bool)} {vs : List SV}
    (hf : E cf = (SV.yld lp).den) (hx : xs.toList.map E = dens vs) :
    (execOp E ⟨d, .call ⟨.value cf, xs, ts⟩, ty, pos, af, g⟩).run P w = (Instr.yield lp (dens vs).toArray).run P w := by
  have e1 : xs.map E = (dens vs).toArray := by apply Array.toList_inj.1; simp [← hx]
  have hf' : E cf = .func (.yield lp) #[] #[] := hf
  unfold execOp resolve
  simp only [hf', e1, Deferred.ofValue, Sem.run_bind, Sem.run_pure, Result.andThen, invoke]
  simp
section
variable {ro : Option Nat} {ops : Array Oper} {rest : List Oper} {K : Act → World → Prop}
theorem pvO_ok {kp : Kp} {o : Oper} (hra : RA nt env ds a) (hr : Rel P lb Φ ω w) (hw : Region.wanted o (yielded ops a.tmps) = true) {q : SV → LBs → Facts → Prop}
    (h : pv P env lb Φ o.op fun v fs => appK fs Φ fun Φ' => q v lb Φ') (hK : ∀ v lb' Φ' w' Mu', q v lb' Φ' → Rel P lb' Φ' (ω.mu Mu') w' → KeptQ kp lb w w' → Ops P ro ops rest (a.put o.dst v.den) w' K) : Ops P ro ops (o :: rest) a w K := by
  obtain ⟨v, fs, hq, hy⟩ := pv_ok (d := o.dst) (ty := o.type) (pos := o.pos) (af := o.after) (g := o.guard) hra.ev hr h
  obtain ⟨h1, h2⟩ := hy w hr
  exact o_next hw (pv_nodefer h) h1 (.inl rfl) (hK v lb (fs ++ Φ) w ω.Mu (by rw [appK_eq] at hq; exact hq) ⟨hr.st, (h2 _ hr.hold).append hr.hold, hr.mu, hr.muM, hr.amb⟩ (.of (Kept.refl _ _)))
theorem semO_ok {kp : Kp} {o : Oper} (hra : RA nt env ds a) (hr : Rel P lb Φ ω w) (hw : Region.wanted o (yielded ops a.tmps) = true) (hd : ∀ c, o.op ≠ .defer c) {q : SV → LBs → Facts → Prop}
    (h : SemO P kp o.op o.type env lb Φ q) (hK : ∀ v lb' Φ' w' Mu', q v lb' Φ' → Rel P lb' Φ' (ω.mu Mu') w' → KeptQ kp lb w w' → Ops P ro ops rest (a.put o.dst v.den) w' K) : Ops P ro ops (o :: rest) a w K := by
  obtain ⟨v, lb', Φ', nx, w', hq, h1, h2, h3, h4⟩ := h.h _ o.dst o.pos o.after o.guard ω w hra.ev hr
  refine o_next hw hd h1 ?_ (hK v lb' Φ' w' ω.Mu hq h3 h4)
  rcases h2 with h2 | ⟨h2, rfl⟩
  · exact .inl h2
  · exact .inr ⟨h2, rfl⟩
theorem callK_ok {kp : Kp} {o : Oper} (hra : RA nt env ds a) (hr : Rel P lb Φ ω w) (hw : Region.wanted o (yielded ops a.tmps) = true) (hd : ∀ c, o.op ≠ .defer c) {q : SV → LBs → Facts → Prop} {f : FuncId} {args : List SV}
    (he : (execOp a.eval o).run P w = (callFunc f (dens args).toArray).run P w) (h : CallK P kp f args lb Φ q) (hK : ∀ v lb' Φ' w' Mu', q v lb' Φ' → Rel P lb' Φ' (ω.mu Mu') w' → KeptQ kp lb w w' → Ops P ro ops rest (a.put o.dst v.den) w' K) : Ops P ro ops (o :: rest) a w K := by
  rcases h.h with ⟨hf, hn⟩ | ⟨v, hq, hx⟩
  · refine o_call hw hd (he.trans (hf _ _)) (hn.h ω w hr) ?_
    rintro e w' ⟨v, lb', Φ', rfl, hq, hr', hk⟩
    exact ⟨_, rfl, hK _ _ _ _ ω.Mu hq hr' hk⟩
  · obtain ⟨w', h1, h2⟩ := hx w
    exact o_next hw hd (he.trans h1) (.inl rfl) (hK v lb Φ w' ω.Mu hq (hr.call h2) (.of h2))
theorem wpO_ok {kp : Kp} {o : Oper} (hra : RA nt env ds a) (hr : Rel P lb Φ ω w) (hw : Region.wanted o (yielded ops a.tmps) = true) {q : SV → LBs → Facts → Prop}
    (h : wpO P kp o.op o.type env lb Φ q) (hK : ∀ v lb' Φ' w' Mu', q v lb' Φ' → Rel P lb' Φ' (ω.mu Mu') w' → KeptQ kp lb w w' → Ops P ro ops rest (a.put o.dst v.den) w' K) : Ops P ro ops (o :: rest) a w K := by
  obtain ⟨dst, op, ty, pos, af, g⟩ := o
  simp only at h
  unfold wpO at h
  split at h
  · -- alloc
    rename_i T
    split at h
    · rename_i i hi
      split at h
      · rename_i z hz
        have hz' := tZero (P := P) hi hz
        have h := h w.heap.size
        rw [ofLK_eq, appK_eq, lenK_eq] at h
        refine o_next hw (fun _ h => by cases h) (nx := .value (.pointer (some ⟨w.heap.size, 0, none⟩))) (w' := w.alloc (.cells z.cells T)) ?_ (.inl rfl) (hK _ _ _ _ ω.Mu h ?_ (.of (Kept.alloc _ _ _)))
        · simp [execOp, Instr.alloc, hz', newVar, newRow]
        · refine hr.alloc (b := .cells _ _) (fun _ _ _ h => by cases h) rfl ?_ trivial
          show (_ : Obj) = _
          rw [dens_ofA]
      · exact h.elim
    · exact h.elim
  · -- box
    rename_i T x
    obtain ⟨v, hv, hh⟩ := evS_ok hra.ev h
    have hh := hh w.heap.size
    rw [cellsK_eq, appK_eq, lenK_eq] at hh
    refine o_next hw (fun _ h => by cases h) (nx := .value (.pointer (some ⟨w.heap.size, 0, none⟩))) (w' := w.alloc (.cells v.den.cells T)) ?_ (.inl rfl) (hK _ _ _ _ ω.Mu hh ?_ (.of (Kept.alloc _ _ _)))
    · simp [execOp, Instr.box, hv, newVar, newRow]
    · refine hr.alloc (b := .cells _ _) (fun _ _ _ h => by cases h) rfl ?_ trivial
      show (_ : Obj) = _
      rw [dens_cellsOf]
  · -- store
    rename_i T x y
    obtain ⟨p, hp, hh⟩ := evS_ok hra.ev h
    clear h
    obtain ⟨v, hv, h⟩ := evS_ok hra.ev hh
    clear hh
    split at h
    · rename_i i hi
      split at h
      · rename_i j b o
        split at h
        · rename_i b' cs t hok hj
          obtain ⟨rfl, h⟩ := h
          rw [cellsK_eq] at h
          split at h
          · rename_i hc
            simp only [Bool.and_eq_true] at hc
            obtain ⟨c1, c3⟩ := hc
            obtain ⟨hh, c2⟩ := updK_ok h
            clear h
            have h := hh
            clear hh
            rw [setK_eq] at h
            obtain ⟨w', h1, h2, h3⟩ := hr.store (P := P) hj c2 c3
            refine o_next hw (fun _ h => by cases h) (nx := .skip) (v := Go.undef) (w' := w') ?_ (.inr ⟨rfl, rfl⟩) (hK .undef _ _ _ ω.Mu h h2 (.at hok hj trivial h3))
            have hsz : v.den.cells.size = i.size := by
              have e1 := dens_cellsOf v
              have e2 := congrArg List.length e1
              rw [dens_length, Array.length_toList] at e2
              exact e2.symm.trans (Nat.eq_of_beq_eq_true c1).symm
            have e1 := dens_cellsOf v
            rw [e1] at h1
            have hp' : a.eval x = .pointer (some ⟨b', o, none⟩) := hp
            simp [execOp, hp', hv, Instr.storeAt, Instr.sureAddr, storeVar, tSize hi, hsz, h1, Result.andThen]
          · exact h.elim
        · exact h.elim
      · exact semO_ok hra hr hw (fun _ h => by cases h) h hK
    · exact h.elim
  · -- a call of a function's value
    rename_i f xs ts
    obtain ⟨fv, hf, hh⟩ := evS_ok hra.ev h
    clear h
    obtain ⟨vs, hvs, h⟩ := evL_ok hra.ev hh
    clear hh
    split at h
    · rename_i fid fs cs
      rw [appK_eq, appK_eq, ← List.append_assoc] at h
      exact callK_ok hra hr hw (fun _ h => by cases h) (fn_call hf hvs) h hK
    · rename_i lp
      split at h
      · rename_i b0 lp' xs n lb
        obtain ⟨⟨rfl, ⟨I, y, hx, hy, hd, hF⟩⟩, hq1, hq2⟩ := h
        obtain ⟨hz0, hst, hfr⟩ := hr.amb b0 lp' xs (some n) rfl
        obtain ⟨MuP, hP1, hP2, hz, hh⟩ : ∃ MuP : Foot, MuP.1 = ω.Mu.1 ∧ (∀ b, MuP.2 b → ω.Mu.2 b ∨ (ω.In (sem ((b0, .seq lp' xs (some n)) :: lb)) b ∧ ω.free)) ∧ ω.Z (some n) MuP w ∧ Hold (I.fs y) (fun b => ¬ MuP.1 b ∧ MuP.2 b ∧ ω.N b) w := by
          rcases hfr with hp | hp
          · refine ⟨ω.Mu, rfl, fun b h => .inl h, hz0, ?_⟩
            rw [hp I (List.mem_of_getElem? hx) y]
            exact Hold.nil
          · refine ⟨(ω.Mu.1, fun b => ω.Mu.2 b ∨ (ω.In (sem ((b0, .seq lp' xs (some n)) :: lb)) b ∧ b < w.heap.size)), rfl, fun b h => h.imp id fun h => ⟨h.1, hp⟩, ω.mono _ _ _ _ hz0 rfl fun b h => .inl h, fun F hFm => ?_⟩
            exact F.stb _ _ _ _ (fun b hlt hb => ⟨⟨hb.2.1, .inr ⟨hb, hlt⟩, (ω.hfree hp).2 b hb.2.2⟩, rfl⟩) (hr.hold F (hF F hFm))
        rw [hd] at hvs
        refine o_round hw (fun _ h => by cases h) (yield_call (vs := I.enc y) hf hvs) (hst n MuP w I y hx hy hz hh) ?_
        rintro b w' ⟨Mu', hg1, hg2, hlt, hk, hz'⟩
        rw [hP1] at hg1 hk
        replace hg2 : ∀ b, Mu'.2 b → (ω.Mu.1 b ∨ ω.Mu.2 b ∨ (ω.In (sem ((b0, .seq lp' xs (some n)) :: lb)) b ∧ ω.free)) ∨ w.heap.size ≤ b := fun b hb => by
          rcases hg2 b hb with (h | h) | h
          · rw [hP1] at h; exact .inl (.inl h)
          · exact .inl (.inr (hP2 b h))
          · exact .inr h
        have key : ∀ s, ω.Z s Mu' w' → Rel P ((b0, .seq lp' xs s) :: lb) Φ (ω.mu Mu') w' := by
          intro s hs
          have hsem : ∀ s, sem ((b0, .seq lp' xs s) :: lb) = sem ((b0, .seq lp' xs (some n)) :: lb) := fun s => rfl
          refine ⟨?_, ?_, ?_, ?_, ?_⟩
          · rw [hsem]
            refine ⟨?_, hr.st.inj, fun i p hp => ⟨(hr.st.own i p hp).1, fun hrp => ?_⟩⟩
            · exact ⟨hk.os.trans hr.st.kept.os, hk.tape.trans hr.st.kept.tape, hk.output.trans hr.st.kept.output, Nat.le_trans hr.st.size hk.size, fun b hb hM =>
                (hk.block b (Nat.lt_of_lt_of_le hb hr.st.size) fun hm => (hr.muM.1 b hm).elim hM (fun h => absurd (show b < ω.w0.heap.size from hb) (by omega))).trans (hr.st.kept.block b hb hM)⟩
            · obtain ⟨h1, o, h2, h3⟩ := (hr.st.own i p hp).2 hrp
              exact ⟨h1, o, (hk.block _ (lt_of_some h2) (fun hm => (hr.mu _ (.inl hm)).2 _ _ hp hrp rfl)).trans h2, h3⟩
          · rw [hsem]
            refine hr.hold.kp fun b hlt hA => ⟨⟨hA.1, ?_, hA.2.2⟩, hk.block b hlt hA.2.1⟩
            intro hm
            rcases hg1 b hm with h | h
            · exact hA.2.1 h
            · omega
          · intro b hb
            rw [hsem]
            refine ⟨hlt b hb, ?_⟩
            rcases hb with hb | hb
            · rcases hg1 b hb with h | h
              · exact (hr.mu b (.inl h)).2
              · exact hr.st.offNew h
            · rcases hg2 b hb with (h | h | h) | h
              · exact (hr.mu b (.inl h)).2
              · exact (hr.mu b (.inr h)).2
              · exact h.1.1
              · exact hr.st.offNew h
          · refine ⟨fun b hb => ?_, fun b hb => ?_⟩
            · rcases hg1 b hb with h | h
              · exact hr.muM.1 b h
              · exact .inr (Nat.le_trans hr.st.size h)
            · rcases hb with hb | hb
              · rcases hg1 b hb with h | h
                · exact hr.muM.2 b (.inl h)
                · exact .inr (Nat.le_trans hr.st.size h)
              · rcases hg2 b hb with (h | h | h) | h
                · exact hr.muM.2 b (.inl h)
                · exact hr.muM.2 b (.inr h)
                · exact .inl ((ω.hfree h.2).1 b)
                · exact .inr (Nat.le_trans hr.st.size h)
          · intro b lp'' xs'' s'' hi
            cases hi; exact ⟨hs, hst, hfr⟩
        cases b with
        | true => exact hK (.bool true) _ _ _ Mu' hq1 (key _ hz') trivial
        | false => exact hK (.bool false) _ _ _ Mu' hq2 (key _ hz') trivial
      · exact h.elim
    · exact h.elim
  · -- a call of an interface's method
    rename_i x name xs ts
    obtain ⟨rv, hf, hh⟩ := evS_ok hra.ev h
    clear h
    obtain ⟨vs, hvs, h⟩ := evL_ok hra.ev hh
    clear hh
    split at h
    · rename_i t v
      obtain ⟨f, r, h1, h2⟩ := h.h
      exact callK_ok hra hr hw (fun _ h => by cases h) (inv_call hf hvs (h2 w)) h1 hK
    · exact h.elim
  · -- a conversion
    rename_i s t x
    obtain ⟨v, hv, hh⟩ := evS_ok hra.ev h
    split at hh
    · exact pvO_ok hra hr hw hh hK
    · exact semO_ok hra hr hw (fun _ h => by cases h) hh hK
  · -- a part of a slice
    rename_i T x lo hi mx
    obtain ⟨v, hv, hh⟩ := evS_ok hra.ev h
    split at hh
    · exact semO_ok hra hr hw (fun _ h => by cases h) hh hK
    · exact pvO_ok hra hr hw hh hK
  · exact pvO_ok hra hr hw h hK
  · exact pvO_ok hra hr hw h hK
  · exact pvO_ok hra hr hw h hK
  · exact pvO_ok hra hr hw h hK
  all_goals first | exact semO_ok hra hr hw (fun _ h => by cases h) h hK | exact pvO_ok hra hr hw h hK
theorem wpL_ok {lo : List Oper} : ∀ {ω : Amb} {rest : List Oper} {env : Env} {lb : LBs} {Φ : Facts} {a : Act} {w : World} {K : Env → LBs → Facts → Prop}, RA nt env ds a → Rel P lb Φ ω w → wpL P nt lo rest env lb Φ K →
    Ops P ro lo.toArray rest a w fun a w => ∃ env lb Φ Mu, RA nt env ds a ∧ Rel P lb Φ (ω.mu Mu) w ∧ K env lb Φ
  | ω, [], _, _, _, _, _, _, hra, hr, h => ⟨_, _, _, ω.Mu, hra, hr, h⟩
  | ω, o :: rest, env, lb, Φ, a, w, K, hra, hr, h => by
    rcases wanted_ok hra h with ⟨hw, h1⟩ | ⟨hw, h1⟩
    · refine wpO_ok hra hr hw h1 fun v lb' Φ' w' Mu' hq hr' _ => ?_
      obtain ⟨env', hra', hk⟩ := hra.put hq
      exact wpL_ok (ω := ω.mu Mu') hra' hr' hk
    · refine o_skip hw ?_
      obtain ⟨env', hra', hk⟩ := hra.put h1
      exact wpL_ok hra' hr hk
end
end Go.Proofs.YtikjigkkhdkibaaGreatDoor.W

/- Code, functions, calls. Over any program. -/
namespace Go.Proofs.YtikjigkkhdkibaaGreatDoor.W
open Go.RowKit
abbrev QT := Exit → Env → List Deferred → LBs → Facts → Prop
/-- what is asked of an end, in the machine's words -/
def QQ (P : Program) (nt : Nat) (ω : Amb) (Q : QT) : Exit → Act → World → Prop :=
  fun e a w => ∃ env ds lb Φ Mu, RA nt env ds a ∧ Rel P lb Φ (ω.mu Mu) w ∧ Q e env ds lb Φ
/-- code, by what it is shown to do -/
structure SemC (P : Program) (nt : Nat) (ro : Option Nat) (c : Code) (env : Env) (ds : List Deferred) (lb : LBs) (Φ : Facts) (Q : QT) : Prop where
  h : ∀ (ω : Amb) (a : Act) (w : World), RA nt env ds a → Rel P lb Φ ω w → c.wpIn (FW ro) 0 P (QQ P nt ω Q) a w
def hasGoto : Code → Bool
  | .goto _ => true
  | .seq a b => hasGoto a || hasGoto b
  | .cond _ a b => hasGoto a || hasGoto b
  | .block _ a => hasGoto a
  | .loop a => hasGoto a
  | .scope a => hasGoto a
  | .rangeFunc _ _ a b => hasGoto a || hasGoto b
  | _ => false
noncomputable def wpC (P : Program) (nt : Nat) (ro : Option Nat) (c : Code) : Env → List Deferred → LBs → Facts → QT → Prop :=
  Code.rec (motive := fun _ => Env → List Deferred → LBs → Facts → QT → Prop)
    (skip := fun env ds lb Φ Q => Q .normal env ds lb Φ)
    (label := fun _ env ds lb Φ Q => Q .normal env ds lb Φ)
    (ret := fun env ds lb Φ Q => Q .ret env ds lb Φ)
    (exit := fun i env ds lb Φ Q => Q (.exit i) env ds lb Φ)
    (goto := fun i env ds lb Φ Q => Q (.goto i) env ds lb Φ)
    (refuse := fun _ _ _ _ _ _ => False)
    (region := fun id ops draw env ds lb Φ Q => match draw with
      | false => arrK ops fun l => wpL P nt l l env lb Φ fun env lb Φ => Q .normal env ds lb Φ
      | true => SemC P nt ro (.region id ops true) env ds lb Φ Q)
    (seq := fun _ _ ihx ihy env ds lb Φ Q => ihx env ds lb Φ fun e env ds lb Φ => match e with
      | .normal => ihy env ds lb Φ Q
      | e => Q e env ds lb Φ)
    (cond := fun c _ _ ihx ihy env ds lb Φ Q => evS env c fun v => match v with
      | .bool b => BR b (ihx env ds lb Φ Q) (ihy env ds lb Φ Q)
      | _ => False)
    (block := fun id _ ih env ds lb Φ Q => ih env ds lb Φ fun e env ds lb Φ => match e with
      | .exit i => match Nat.beq i id with
        | true => Q .normal env ds lb Φ
        | false => Q (.exit i) env ds lb Φ
      | e => Q e env ds lb Φ)
    (scope := fun x ih env ds lb Φ Q => match hasGoto x with
      | false => ih env ds lb Φ fun e env ds lb Φ => match e with
        | .goto _ => False
        | e => Q e env ds lb Φ
      | true => SemC P nt ro (.scope x) env ds lb Φ Q)
    (loop := fun x _ env ds lb Φ Q => SemC P nt ro (.loop x) env ds lb Φ Q)
    (rangeFunc := fun f ps x y _ _ env ds lb Φ Q => SemC P nt ro (.rangeFunc f ps x y) env ds lb Φ Q) c
theorem wpC_scope {P : Program} {nt : Nat} {ro : Option Nat} {x : Code} {env : Env} {ds : List Deferred} {lb : LBs} {Φ : Facts} {Q : QT} : wpC P nt ro (.scope x) env ds lb Φ Q = match hasGoto x with
      | false => wpC P nt ro x env ds lb Φ fun e env ds lb Φ => match e with
        | .goto _ => False
        | e => Q e env ds lb Φ
      | true => SemC P nt ro (.scope x) env ds lb Φ Q := rfl
theorem wpC_cond {P : Program} {nt : Nat} {ro : Option Nat} {c : Operand} {x y : Code} {env : Env} {ds : List Deferred} {lb : LBs} {Φ : Facts} {Q : QT} : wpC P nt ro (.cond c x y) env ds lb Φ Q = evS env c fun v => match v with
      | .bool b => BR b (wpC P nt ro x env ds lb Φ Q) (wpC P nt ro y env ds lb Φ Q)
      | _ => False := rfl

section
variable {P : Program} {ro : Option Nat} {Q : Exit → Act → World → Prop} {a : Act} {w : World}
theorem c_region {id : Nat} {l : List Oper} {K : Act → World → Prop} (h : Ops P ro l.toArray l a w K) (hK : ∀ a w, K a w → Q .normal a w) : (Code.region id l.toArray false).wpIn (FW ro) 0 P Q a w :=
  wpIn_mono (wpIn_region_lit h) (fun e a w q => by cases e <;> first | exact hK _ _ q | exact q.elim)
theorem c_loopN {c : Code} {ι : Type} (I : ι → Act → World → Prop) (μ : ι → Nat) (i0 : ι) (h0 : I i0 a w)
    (round : ∀ i a w, I i a w → c.wpIn (FW ro) 0 P (Exit.then (fun a' w' => ∃ j, μ j < μ i ∧ I j a' w') Q) a w) : (Code.loop c).wpIn (FW ro) 0 P Q a w := by
  intro b k cs hro hb hr
  have key : ∀ n i a w, μ i = n → I i a w → ∃ e a' w', Q e a' w' ∧ ArrivesIn (Machine.fenced P (FW ro)) P (lone (b.atR a (.code c :: .inLoop c :: k)) cs w) b k cs e a' w' := by
    intro n
    induction n using Nat.strongRecOn with
    | _ n ih =>
      intro i a w hn hI
      obtain ⟨e, a₁, w₁, hq, harr⟩ := round i a w hI b (.inLoop c :: k) cs hro hb hr
      cases e with
      | normal =>
        obtain ⟨m, hlt, hI₁⟩ := hq
        obtain ⟨e₂, a₂, w₂, hq₂, harr₂⟩ := ih (μ m) (by omega) m a₁ w₁ rfl hI₁
        exact ⟨e₂, a₂, w₂, hq₂, .of_steps (StepsIn.trans harr (.one (fenced_calm hb hr rfl) stepR_inLoop)) harr₂⟩
      | exit id => exact ⟨_, a₁, w₁, hq, .pass (x := .inLoop c) rfl (fun _ _ => .inl (by simp)) harr⟩
      | goto l => exact ⟨_, a₁, w₁, hq, .pass (x := .inLoop c) rfl (fun _ _ => .inl (by simp)) harr⟩
      | ret => exact ⟨_, a₁, w₁, hq, .pass (x := .inLoop c) rfl (fun _ _ => .inl (by simp)) harr⟩
      | panic ch => exact ⟨_, a₁, w₁, hq, .pass (x := .inLoop c) rfl (fun _ _ => .inl (by simp)) harr⟩
      | outgrown => exact ⟨_, a₁, w₁, hq, .pass (x := .inLoop c) rfl (fun _ _ => .inl (by simp)) harr⟩
  obtain ⟨e, a', w', hq, harr⟩ := key _ i0 a w rfl h0
  exact ⟨e, a', w', hq, .of_steps (.one (fenced_calm hb hr rfl) stepR_loop) harr⟩
theorem stepR_scope {b : Frame} {k : List Item} {cs : List Frame} {c : Code} : step P (lone (b.atR a (.code (.scope c) :: k)) cs w) = .next (lone (b.atR a (.code c :: .inScope c :: k)) cs w) :=
  step_lone_go (by simp [stepG, stepG.exec, Frame.atR])
theorem stepR_inScope {b : Frame} {k : List Item} {cs : List Frame} {c : Code} : step P (lone (b.atR a (.inScope c :: k)) cs w) = .next (lone (b.atR a k) cs w) :=
  step_lone_go (by simp [stepG, stepG.exec, Frame.atR])
/-- what is asked of a scope's body that jumps to no label -/
def NoGoto (Q : Exit → Act → World → Prop) : Exit → Act → World → Prop
  | .goto _, _, _ => False
  | e, a, w => Q e a w
/-- what is asked of a scope's body that may jump, to labels behind -/
def Jumps (J : Nat → Act → World → Prop) (Q : Exit → Act → World → Prop) : Exit → Act → World → Prop
  | .goto i, a, w => J i a w
  | e, a, w => Q e a w
theorem arrives_scope {b : Frame} {k : List Item} {cs : List Frame} {c : Code} {m : Machine} {e : Exit} {a' : Act} {w' : World} (hb : (FW ro).fn b.fn) (hr : (FW ro).room (cs.length + 1 + 0)) (he : ∀ i, e ≠ .goto i)
    (h : ArrivesIn (Machine.fenced P (FW ro)) P m b (.inScope c :: k) cs e a' w') : ArrivesIn (Machine.fenced P (FW ro)) P m b k cs e a' w' := by
  cases e with
  | normal => exact StepsIn.trans h (.one (fenced_calm hb hr rfl) stepR_inScope)
  | exit id => exact ⟨fun k' hk => h.1 k' (by simp [exitTo, hk]), fun hr' hk => h.2 hr' (by simp [exitTo, hk])⟩
  | goto i => exact absurd rfl (he i)
  | ret => exact h
  | panic ch => exact h
  | outgrown => exact h
theorem c_scope {c : Code} (h : c.wpIn (FW ro) 0 P (NoGoto Q) a w) : (Code.scope c).wpIn (FW ro) 0 P Q a w := by
  intro b k cs hro hb hr
  obtain ⟨e, a₁, w₁, hq, harr⟩ := h b (.inScope c :: k) cs hro hb hr
  have h0 : (lone (b.atR a (.code (.scope c) :: k)) cs w).fenced P (FW ro) := fenced_calm hb hr rfl
  refine ⟨e, a₁, w₁, ?_, .of_steps (.one h0 stepR_scope) (arrives_scope hb hr (fun i hi => by subst hi; exact hq.elim) harr)⟩
  cases e <;> first | exact hq | exact hq.elim
theorem c_scopeJ {c : Code} (J : Nat → Act → World → Prop) (hJ : ∀ i a w, J i a w → ∃ rest, findLabel c i = some rest ∧ rest.wpIn (FW ro) 0 P (NoGoto Q) a w)
    (h : c.wpIn (FW ro) 0 P (Jumps J Q) a w) : (Code.scope c).wpIn (FW ro) 0 P Q a w := by
  intro b k cs hro hb hr
  obtain ⟨e, a₁, w₁, hq, harr⟩ := h b (.inScope c :: k) cs hro hb hr
  have h0 : (lone (b.atR a (.code (.scope c) :: k)) cs w).fenced P (FW ro) := fenced_calm hb hr rfl
  by_cases hg : ∃ i, e = .goto i
  · obtain ⟨i, rfl⟩ := hg
    obtain ⟨rest, hf, hrest⟩ := hJ i a₁ w₁ hq
    obtain ⟨e₂, a₂, w₂, hq₂, harr₂⟩ := hrest b (.inScope c :: k) cs hro hb hr
    have h1 := harr.1 (.code rest :: .inScope c :: k) (by simp [gotoIn, hf])
    refine ⟨e₂, a₂, w₂, ?_, .of_steps (.one h0 stepR_scope) (.of_steps h1 (arrives_scope hb hr (fun i hi => by subst hi; exact hq₂.elim) harr₂))⟩
    cases e₂ <;> first | exact hq₂ | exact hq₂.elim
  · refine ⟨e, a₁, w₁, ?_, .of_steps (.one h0 stepR_scope) (arrives_scope hb hr (fun i hi => hg ⟨i, hi⟩) harr)⟩
    cases e <;> first | exact hq | exact absurd ⟨_, rfl⟩ hg
end
theorem wpC_ok {P : Program} {nt : Nat} {ro : Option Nat} : ∀ {c : Code} {ω : Amb} {env : Env} {ds : List Deferred} {lb : LBs} {Φ : Facts} {Q : QT} {a : Act} {w : World},
    wpC P nt ro c env ds lb Φ Q → RA nt env ds a → Rel P lb Φ ω w → c.wpIn (FW ro) 0 P (QQ P nt ω Q) a w := by
  intro c
  induction c with
  | skip => intro ω env ds lb Φ Q a w h hra hr; exact wpIn_skip ⟨_, _, _, _, ω.Mu, hra, hr, h⟩
  | label i => intro ω env ds lb Φ Q a w h hra hr; exact wpIn_label ⟨_, _, _, _, ω.Mu, hra, hr, h⟩
  | ret => intro ω env ds lb Φ Q a w h hra hr; exact wpIn_ret ⟨_, _, _, _, ω.Mu, hra, hr, h⟩
  | exit i => intro ω env ds lb Φ Q a w h hra hr; exact wpIn_exit ⟨_, _, _, _, ω.Mu, hra, hr, h⟩
  | goto i => intro ω env ds lb Φ Q a w h hra hr; exact wpIn_goto ⟨_, _, _, _, ω.Mu, hra, hr, h⟩
  | refuse s => intro ω env ds lb Φ Q a w h; exact h.elim
  | region id ops draw =>
    intro ω env ds lb Φ Q a w h hra hr
    cases draw with
    | false =>
      have h1 := wpL_ok (ω := ω) (P := P) (ro := ro) hra hr h
      have h2 := c_region (id := id) (l := ops.toList) (Q := QQ P nt ω Q) h1 (fun a w ⟨env, lb, Φ, Mu, k1, k2, k3⟩ => ⟨env, ds, lb, Φ, Mu, k1, k2, k3⟩)
      simpa using h2
    | true => exact (SemC.h h) ω a w hra hr
  | seq x y ihx ihy =>
    intro ω env ds lb Φ Q a w h hra hr
    refine wpIn_seq_k fun K hk => ?_
    refine wpIn_mono (ihx h hra hr) ?_
    rintro e a w ⟨env, ds, lb, Φ, Mu, k1, k2, k3⟩
    cases e with
    | normal => exact hk a w (ihy (ω := ω.mu Mu) k3 k1 k2)
    | _ => exact ⟨_, _, _, _, _, k1, k2, k3⟩
  | cond c x y ihx ihy =>
    intro ω env ds lb Φ Q a w h hra hr
    rw [wpC_cond] at h
    obtain ⟨v, hv, h⟩ := evS_ok hra.ev h
    split at h
    · exact wpIn_cond_split hv (fun hb => ihx (h.t hb) hra hr) (fun hb => ihy (h.f hb) hra hr)
    · exact h.elim
  | block id x ih =>
    intro ω env ds lb Φ Q a w h hra hr
    refine wpIn_block (wpIn_mono (ih h hra hr) ?_)
    rintro e a w ⟨env, ds, lb, Φ, Mu, k1, k2, k3⟩
    cases e with
    | exit i =>
      simp only at k3
      split at k3
      · rename_i hb
        obtain rfl : i = id := Nat.eq_of_beq_eq_true hb
        simp only [Exit.inBlock, ↓reduceIte]
        exact ⟨_, _, _, _, _, k1, k2, k3⟩
      · rename_i hb
        have : i ≠ id := Nat.ne_of_beq_eq_false hb
        simp only [Exit.inBlock, this, ↓reduceIte]
        exact ⟨_, _, _, _, _, k1, k2, k3⟩
    | _ => exact ⟨_, _, _, _, _, k1, k2, k3⟩
  | scope x ih =>
    intro ω env ds lb Φ Q a w h hra hr
    rw [wpC_scope] at h
    split at h
    · refine c_scope (wpIn_mono (ih h hra hr) ?_)
      rintro e a w ⟨env, ds, lb, Φ, Mu, k1, k2, k3⟩
      cases e with
      | goto i => exact k3
      | _ => exact ⟨_, _, _, _, _, k1, k2, k3⟩
    · exact h.h ω a w hra hr
  | loop x ih => intro ω env ds lb Φ Q a w h hra hr; exact (SemC.h h) ω a w hra hr
  | rangeFunc f ps x y ihx ihy => intro ω env ds lb Φ Q a w h hra hr; exact (SemC.h h) ω a w hra hr
end Go.Proofs.YtikjigkkhdkibaaGreatDoor.W

/- Functions: what a call of one does; loops. Over any program. -/
namespace Go.Proofs.YtikjigkkhdkibaaGreatDoor.W
open Go.RowKit
/-- what a call of f does: with these blocks of its caller's, these arguments, these facts, it hands back r; the blocks are as bs' says, and new facts hold -/
structure Ct (P : Program) (f : FuncId) (bs : LBs) (args : List SV) (Φ : Facts) (R : SV → LBs → Facts → Prop) : Prop where
  h : ∀ (M : Nat → Prop) (A : Nat → Prop) (w : World), Rel P bs Φ (amb0 M w A) w → Ok P M f (dens args).toArray w fun v w' => ∃ r bs' Ψ, v = r.den ∧ R r bs' Ψ ∧ Rel P bs' Ψ (amb0 M w A) w'
noncomputable def resW (P : Program) (env : Env) (lb : LBs) (Φ : Facts) (l : List ResultVar) : (List SV → Prop) → Prop :=
  List.rec (motive := fun _ => (List SV → Prop) → Prop) (fun k => k []) (fun r _ ih k => match r with
    | .tmp t => match lkp env t with
      | some v => ih fun vs => k (v :: vs)
      | none => False
    | .cell a T => match lkp env a with
      | some (.own i b o) => match nth lb i with
        | some (b', .cells cs _) => Ob (b' = b) (readAt P T cs o fun v => ih fun vs => k (v :: vs))
        | _ => False
      | _ => False) l
theorem resW_t {P : Program} {env : Env} {lb : LBs} {Φ : Facts} {t : Tmp} {rs : List ResultVar} {k : List SV → Prop} : resW P env lb Φ (.tmp t :: rs) k = match lkp env t with
      | some v => resW P env lb Φ rs fun vs => k (v :: vs)
      | none => False := rfl
theorem resW_c {P : Program} {env : Env} {lb : LBs} {Φ : Facts} {a : Tmp} {T : TypeId} {rs : List ResultVar} {k : List SV → Prop} : resW P env lb Φ (.cell a T :: rs) k = match lkp env a with
      | some (.own i b o) => match nth lb i with
        | some (b', .cells cs _) => Ob (b' = b) (readAt P T cs o fun v => resW P env lb Φ rs fun vs => k (v :: vs))
        | _ => False
      | _ => False := rfl
def resS : List SV → SV
  | [v] => v
  | vs => .tup vs
/-- a function's end -/
structure EndS (P : Program) (fn : Func) (env : Env) (ds : List Deferred) (lb : LBs) (Φ : Facts) (R : SV → LBs → Facts → Prop) : Prop where
  h : ∀ (ω : Amb) (a : Act) (w : World) (nt : Nat), RA nt env ds a → Rel P lb Φ ω w →
    LeavesInM (FW none) 0 P fn a.tmps (fun e w' => ∃ v lb' Φ' Mu, e = .returned v.den ∧ R v lb' Φ' ∧ Rel P lb' Φ' (ω.mu Mu) w') ds .returning w
noncomputable def endW (P : Program) (fn : Func) (rs : List ResultVar) (R : SV → LBs → Facts → Prop) : QT := fun e env ds lb Φ =>
  match e with
  | .normal | .ret => match ds with
    | [] => resW P env lb Φ rs fun vs => R (resS vs) lb Φ
    | d :: ds => EndS P fn env (d :: ds) lb Φ R
  | _ => False
section
variable {P : Program} {w : World} {nt : Nat} {env : Env} {ds : List Deferred} {a : Act} {lb : LBs} {Φ : Facts} {ω : Amb}
def resF (tmps : Array Value) (r : ResultVar) : Sem Value :=
  match r with
  | .tmp t => pure (tmps.getD t Go.undef)
  | .cell a t => (asAddr (tmps.getD a Go.undef)).bind (loadVar t)
theorem resW_ok (hra : RA nt env ds a) (hr : Rel P lb Φ ω w) : ∀ {rs : List ResultVar} {k : List SV → Prop}, resW P env lb Φ rs k → ∃ vs, k vs ∧ (rs.mapM (resF a.tmps)).run P w = .ok (dens vs) w
  | [], k, h => ⟨[], h, by simp [dens]⟩
  | .tmp t :: rs, k, h => by
    rw [resW_t] at h
    split at h
    · rename_i v hv
      obtain ⟨vs, hk, hm⟩ := resW_ok hra hr h
      refine ⟨_, hk, ?_⟩
      have := hra.slot _ _ hv
      rw [List.mapM_cons, Sem.run_bind]
      simp only [resF, this, Sem.run_pure, Result.andThen]
      rw [Sem.run_bind, show (List.mapM (resF a.tmps) rs).run P w = _ from hm]
      simp [Result.andThen, dens]
    · exact h.elim
  | .cell t T :: rs, k, h => by
    rw [resW_c] at h
    split at h
    · rename_i i b o hv
      split at h
      · rename_i b' cs tt hi
        obtain ⟨rfl, h⟩ := h
        obtain ⟨v, hrv, h⟩ := readAt_ok h
        obtain ⟨vs, hk, hm⟩ := resW_ok hra hr h
        refine ⟨_, hk, ?_⟩
        have h1 := hra.slot _ _ hv
        have h2 := hrv.load (w := w) (base := 0) (hr.cells hi) (by rw [List.drop_zero, List.take_of_length_le (by simp [dens_length])]) (by simp [dens_length])
        rw [Nat.zero_add] at h2
        have h3 : (resF a.tmps (.cell t T)).run P w = .ok v.den w := by
          have e2 : (resF a.tmps (.cell t T)) = (asAddr (a.tmps.getD t Go.undef) >>= loadVar T) := rfl
          rw [e2, h1, Sem.run_bind]
          simp [asAddr, SV.den, h2, Result.andThen]
        rw [List.mapM_cons, Sem.run_bind, h3]
        simp only [Result.andThen]
        rw [Sem.run_bind, show (List.mapM (resF a.tmps) rs).run P w = _ from hm]
        simp [Result.andThen, dens]
      · exact h.elim
    · exact h.elim
theorem results_ok {fn : Func} {rs : List ResultVar} (hrs : fn.results.toList = rs) (hra : RA nt env ds a) (hr : Rel P lb Φ ω w) {k : List SV → Prop} (h : resW P env lb Φ rs k) :
    ∃ vs, k vs ∧ (results fn a.tmps).run P w = .ok (resS vs).den w := by
  obtain ⟨vs, hk, hm⟩ := resW_ok hra hr h
  refine ⟨vs, hk, ?_⟩
  have e : results fn a.tmps = (do let vs ← fn.results.mapM (resF a.tmps); pure (if h : vs.size = 1 then vs[0] else .tuple vs)) := rfl
  have e3 : fn.results = rs.toArray := by rw [← hrs]
  rw [e, e3, List.mapM_toArray, Sem.run_bind]
  have h2 : (List.toArray <$> rs.mapM (resF a.tmps)).run P w = .ok (dens vs).toArray w := by
    rw [map_eq_pure_bind, Sem.run_bind, hm]
    simp [Result.andThen]
  rw [h2]
  simp only [Result.andThen, Sem.run_pure]
  match vs with
  | [] => rfl
  | [v] => rfl
  | a :: b :: vs => simp [resS, dens, SV.den]
def argE : Nat → List SV → Env
  | _, [] => []
  | i, v :: vs => (i, v) :: argE (i + 1) vs
def argK : Nat → List SV → (Env → Prop) → Prop
  | _, [], k => k []
  | i, v :: vs, k => argK (Nat.succ i) vs fun r => k ((i, v) :: r)
theorem argK_eq {i : Nat} {vs : List SV} {k : Env → Prop} : argK i vs k = k (argE i vs) := by
  induction vs generalizing i k with
  | nil => rfl
  | cons v vs ih => simp [argK, argE, ih]
theorem argE_lkp : ∀ {vs : List SV} {i t : Nat} {v : SV}, lkp (argE i vs) t = some v → i ≤ t ∧ vs[t - i]? = some v
  | [], _, _, _, h => by cases h
  | u :: vs, i, t, v, h => by
    unfold argE lkp at h
    split at h
    · rename_i hb
      obtain rfl : i = t := Nat.eq_of_beq_eq_true hb
      cases h
      simp
    · obtain ⟨h1, h2⟩ := argE_lkp h
      refine ⟨by omega, ?_⟩
      obtain ⟨k, rfl⟩ : ∃ k, t = i + 1 + k := ⟨t - (i + 1), by omega⟩
      rw [show i + 1 + k - (i + 1) = k from by omega] at h2
      rw [show i + 1 + k - i = k + 1 from by omega]
      simpa using h2
theorem size_ok {n : Nat} {vs : List SV} (h : vs.length ≤ n) : ((dens vs).toArray ++ Array.replicate (n - (dens vs).toArray.size) Go.undef).size = n := by
  simp [dens_length]; omega
/-- the entry, wherever one stands -/
theorem enter {f : FuncId} {fn : Func} {c : Code} {n : Nat} {rs : List ResultVar} {bs : LBs} {args : List SV} {R : SV → LBs → Facts → Prop} (hf : P.funcs[f]? = some fn) (hb : fn.body = some c) (hn : fn.ntmps = n) (hl : Nat.ble args.length n = true) (hrs : fn.results.toList = rs)
    (h : argK 0 args fun env => wpC P n none c env [] bs Φ (endW P fn rs R)) (hr : Rel P bs Φ ω w) : Calls P f (dens args).toArray w fun e w' => ∃ v lb' Φ' Mu, e = .returned v.den ∧ R v lb' Φ' ∧ Rel P lb' Φ' (ω.mu Mu) w' := by
  rw [argK_eq] at h
  subst hn
  have hra : RA fn.ntmps (argE 0 args) [] { tmps := (dens args).toArray ++ Array.replicate (fn.ntmps - (dens args).toArray.size) Go.undef, defers := [] } := by
    refine ⟨size_ok (Nat.le_of_ble_eq_true hl), fun t v hv => ?_, rfl⟩
    obtain ⟨_, h2⟩ := argE_lkp hv
    have h3 := dens_get h2
    rw [Nat.sub_zero] at h3
    have hlt := (List.getElem?_eq_some_iff.1 h3).1
    rw [Array.getD_eq_getD_getElem?, Array.getElem?_append, if_pos (by simpa using hlt)]
    simp [h3]
  have h1 := callsIn_of_wp_marks (F := FW none) (n := 0) (R := fun e w' => ∃ v lb' Φ' Mu, e = .returned v.den ∧ R v lb' Φ' ∧ Rel P lb' Φ' (ω.mu Mu) w') (args := (dens args).toArray) hf hb trivial (by
    refine wpIn_mono (wpC_ok (ω := ω) h hra hr) fun e a w' q => ?_
    obtain ⟨env, ds, lb, Φ, Mu, k1, k2, k3⟩ := q
    unfold endW at k3
    split at k3
    · split at k3
      · obtain ⟨vs, hk, hv⟩ := results_ok hrs k1 k2 k3
        show LeavesInM _ _ _ _ _ _ _ _ _
        rw [k1.defs]
        exact ⟨_, hv, _, _, _, Mu, rfl, hk, k2⟩
      · show LeavesInM _ _ _ _ _ _ _ _ _
        rw [k1.defs]
        exact k3.h (ω.mu Mu) _ _ _ k1 k2
    · split at k3
      · obtain ⟨vs, hk, hv⟩ := results_ok hrs k1 k2 k3
        show LeavesInM _ _ _ _ _ _ _ _ _
        rw [k1.defs]
        exact ⟨_, hv, _, _, _, Mu, rfl, hk, k2⟩
      · show LeavesInM _ _ _ _ _ _ _ _ _
        rw [k1.defs]
        exact k3.h (ω.mu Mu) _ _ _ k1 k2
    · exact k3.elim)
  exact callsIn_wide.1 h1
/-- whom it yields to is nobody's concern any more -/
theorem Rel.unmu {M A : Nat → Prop} {w0 : World} {Mu : Foot} (h : Rel P lb Φ ((amb0 M w0 A).mu Mu) w) : Rel P lb Φ (amb0 M w0 A) w :=
  ⟨h.st, h.hold.kp fun _ _ hb => ⟨⟨hb.1, id, hb.2.2⟩, rfl⟩, fun _ hb => hb.elim False.elim False.elim, ⟨fun _ hb => hb.elim, fun _ hb => hb.elim False.elim False.elim⟩, fun b lp xs s hi => ⟨trivial, (h.amb b lp xs s hi).2⟩⟩
/-- the entry -/
theorem Ct.of {f : FuncId} {fn : Func} {c : Code} {n : Nat} {rs : List ResultVar} {bs : LBs} {args : List SV} {R : SV → LBs → Facts → Prop} (hf : P.funcs[f]? = some fn) (hb : fn.body = some c) (hn : fn.ntmps = n) (hl : Nat.ble args.length n = true) (hrs : fn.results.toList = rs)
    (h : argK 0 args fun env => wpC P n none c env [] bs Φ (endW P fn rs R)) : Ct P f bs args Φ R := ⟨fun M A w hr =>
  Calls.mono (enter hf hb hn hl hrs h hr) fun _ _ ⟨v, lb', Φ', Mu, he, h2, h3⟩ => ⟨v.den, he, h3.st.kept, v, lb', Φ', rfl, h2, h3.unmu⟩⟩
end
end Go.Proofs.YtikjigkkhdkibaaGreatDoor.W

/- Rules: calls, loops, ends. Over any program. -/
namespace Go.Proofs.YtikjigkkhdkibaaGreatDoor.W
open Go.RowKit
variable {P : Program} {nt : Nat} {ro : Option Nat} {env env' : Env} {ds : List Deferred} {lb lb' : LBs} {Φ Φ' : Facts} {ω : Amb} {w : World}
/-! ### results -/
/-- so it hands back res x, and these facts are new, for some x of this kind -/
def Rs {β : Type} (res : β → SV) (bs : β → LBs) (fs : β → Facts) (pr : β → Prop) : SV → LBs → Facts → Prop := fun r b Ψ => ∃ x, r = res x ∧ b = bs x ∧ Ψ = fs x ∧ pr x
/-- so it hands back v -/
def Rv (v : SV) : SV → LBs → Facts → Prop := fun r _ _ => r = v
theorem Rel.sub (hr : Rel P lb Φ ω w) : Rel P [] Φ (amb0 No w (ω.In (sem lb))) w :=
  ⟨St.start w, hr.hold.kp fun _ _ h => ⟨⟨fun _ _ h => by simp [sem] at h, id, .inl h⟩, rfl⟩, fun _ h => h.elim False.elim False.elim, ⟨fun _ h => h.elim, fun _ h => h.elim False.elim False.elim⟩, fun _ _ _ _ h => by cases h⟩
def noSeq : LBs → Bool
  | [] => true
  | (_, .seq _ _ _) :: _ => false
  | _ :: l => noSeq l
theorem noSeq_ok {bs : LBs} (h : noSeq bs = true) {i b lp : Nat} {xs : List PubI} {s : Option Nat} (hi : nth bs i = some (b, .seq lp xs s)) : False := by
  induction bs generalizing i with
  | nil => cases hi
  | cons e bs ih =>
    unfold noSeq at h
    split at h
    · rename_i h0; cases h0
    · cases h
    · rename_i hne heq
      cases heq
      cases i with
      | zero => cases hi; exact hne _ _ _ _ rfl
      | succ i => exact ih h hi
theorem sem_append (lb bs : LBs) : sem (lb ++ bs) = sem lb ++ sem bs := by simp [sem]
theorem get_append {α : Type _} {l m : List α} {i : Nat} {x : α} (h : (l ++ m)[i]? = some x) : l[i]? = some x ∨ (l.length ≤ i ∧ m[i - l.length]? = some x) := by
  rw [List.getElem?_append] at h
  split at h
  · exact .inl h
  · exact .inr ⟨by omega, h⟩
/-- what a callee hands back, which had no block of its caller's -/
theorem Rel.back (hr : Rel P lb Φ ω w) {w' : World} {bs : LBs} {Ψ : Facts} (h : Rel P bs Ψ (amb0 No w (ω.In (sem lb))) w') (hns : noSeq bs = true) : Rel P (lb ++ bs) (Ψ ++ Φ) ω w' := by
  have hk : Kept No w w' := h.st.kept
  have hnew : ∀ (i : Nat) (p : Ent), (sem bs)[i]? = some p → p.real → w.heap.size ≤ p.b := fun i p hp hreal => ((h.st.own i p hp).2 hreal).1.resolve_left id
  have hoff : ∀ b, b < w.heap.size → Off (sem lb) b → Off (sem lb ++ sem bs) b := fun b hlt ho i p hp hrp => by
    rcases get_append hp with hp | ⟨hi, hp⟩
    · exact ho i p hp hrp
    · have := hnew _ _ hp hrp; omega
  refine ⟨?_, ?_, ?_, hr.muM, ?_⟩
  · rw [sem_append]
    have h1 := hr.st.call hk
    refine ⟨h1.kept, ?_, ?_⟩
    · intro i j p q hp hq hrp hrq e
      rcases get_append hp with hp | ⟨hi, hp⟩ <;> rcases get_append hq with hq | ⟨hj, hq⟩
      · exact h1.inj _ _ _ _ hp hq hrp hrq e
      · have := hr.st.lt hp hrp; have := hnew _ _ hq hrq; omega
      · have := hr.st.lt hq hrq; have := hnew _ _ hp hrp; omega
      · have := h.st.inj _ _ _ _ hp hq hrp hrq e; omega
    · intro i p hp
      rcases get_append hp with hp | ⟨hi, hp⟩
      · exact h1.own i p hp
      · refine ⟨(h.st.own _ _ hp).1, fun hrp => ?_⟩
        obtain ⟨_, o, h2, h3⟩ := (h.st.own _ _ hp).2 hrp
        exact ⟨.inr (Nat.le_trans hr.st.size (hnew _ _ hp hrp)), o, h2, h3⟩
  · rw [sem_append]
    refine Hold.append (h.hold.kp ?_) (hr.hold.kp ?_)
    · intro b _ hb
      refine ⟨⟨?_, ?_, ?_⟩, rfl⟩
      · intro i p hp hrp
        rcases get_append hp with hp | ⟨hi, hp⟩
        · rcases hb.2.2 with h1 | h1 | h1
          · exact h1.1 i p hp hrp
          · exact h1.elim
          · have h2 : w.heap.size ≤ b := h1
            have := hr.st.lt hp hrp; omega
        · exact hb.1 _ _ hp hrp
      · intro hm
        rcases hb.2.2 with h1 | h1 | h1
        · exact h1.2.1 hm
        · exact h1.elim
        · have h2 : w.heap.size ≤ b := h1
          have := (hr.mu b (.inl hm)).1; omega
      · rcases hb.2.2 with h1 | h1 | h1
        · exact h1.2.2
        · exact h1.elim
        · exact .inr (.inr (Nat.le_trans hr.st.size h1))
    · intro b hlt hb
      exact ⟨⟨hoff b hlt hb.1, hb.2⟩, hk.block b hlt id⟩
  · intro b hb
    rw [sem_append]
    exact ⟨Nat.lt_of_lt_of_le (hr.mu b hb).1 hk.size, hoff b (hr.mu b hb).1 (hr.mu b hb).2⟩
  · intro b lp xs s hi
    have : nth lb 0 = some (b, .seq lp xs s) := by
      rw [nth_eq] at hi ⊢
      rcases get_append hi with hi | ⟨_, hi⟩
      · exact hi
      · rw [← nth_eq] at hi; exact (noSeq_ok hns hi).elim
    exact (hr.call hk).amb b lp xs s this
theorem CallS.ct {kp : Kp} {f : FuncId} {args args' : List SV} {Φ0 : Facts} {R : SV → LBs → Facts → Prop} {q : SV → LBs → Facts → Prop} (h : Ct P f [] args' Φ0 R) (ha : dens args' = dens args) (hΦ : ∀ F ∈ Φ0, F ∈ Φ)
    (hq : ∀ r bs Ψ, R r bs Ψ → noSeq bs = true ∧ appK lb bs fun lb' => appK Ψ Φ fun Φ' => q r lb' Φ') : CallS P kp f args lb Φ q := by
  refine ⟨fun ω w hr => ?_⟩
  have h1 := h.h No (ω.In (sem lb)) w ⟨St.start w, fun F hF => hr.sub.hold F (hΦ F hF), hr.sub.mu, hr.sub.muM, hr.sub.amb⟩
  rw [ha] at h1
  refine Calls.mono h1 fun e w' ⟨v, he, hk, r, bs, Ψ, hv, hR, hr'⟩ => ?_
  subst hv
  obtain ⟨hns, this⟩ := hq r bs Ψ hR
  rw [appK_eq, appK_eq] at this
  exact ⟨r, lb ++ bs, Ψ ++ Φ, he, this, hr.back hr' hns, .of hr'.st.kept⟩
theorem CallS.rs {kp : Kp} {f : FuncId} {args : List SV} {Φ0 : Facts} {β : Type} {res : β → SV} {bs : β → LBs} {fs : β → Facts} {pr : β → Prop} {q : SV → LBs → Facts → Prop} (h : Ct P f [] args Φ0 (Rs res bs fs pr)) (hΦ : ∀ F ∈ Φ0, F ∈ Φ)
    (hq : ∀ x, pr x → noSeq (bs x) = true ∧ appK lb (bs x) fun lb' => appK (fs x) Φ fun Φ' => q (res x) lb' Φ') : CallS P kp f args lb Φ q :=
  CallS.ct h rfl hΦ fun _ _ _ ⟨x, h1, h2, h3, h4⟩ => by subst h1 h2 h3; exact hq x h4
theorem CallS.rv {kp : Kp} {f : FuncId} {args : List SV} {Φ0 : Facts} {v : SV} {q : SV → LBs → Facts → Prop} (h : Ct P f [] args Φ0 (Rv v)) (hΦ : ∀ F ∈ Φ0, F ∈ Φ) (hq : q v lb Φ) : CallS P kp f args lb Φ q := by
  refine ⟨fun ω w hr => ?_⟩
  have h1 := h.h No (ω.In (sem lb)) w ⟨St.start w, fun F hF => hr.sub.hold F (hΦ F hF), hr.sub.mu, hr.sub.muM, hr.sub.amb⟩
  refine Calls.mono h1 fun e w' ⟨v', he, hk, r, bs, Ψ, hv, hR, hr'⟩ => ?_
  subst hv
  obtain rfl : r = v := hR
  exact ⟨r, lb, Φ, he, hq, hr.call hr'.st.kept, .of hr'.st.kept⟩
/-! ### what is known, said otherwise -/
/-- what is known of blocks and facts, said otherwise -/
def Imp (P : Program) (lb : LBs) (Φ : Facts) (lb' : LBs) (Φ' : Facts) : Prop := ∀ (ω : Amb) (w : World), Rel P lb Φ ω w → Rel P lb' Φ' ω w
theorem Imp.refl : Imp P lb Φ lb Φ := fun _ _ h => h
theorem Imp.trans {lb'' : LBs} {Φ'' : Facts} (h : Imp P lb Φ lb' Φ') (k : Imp P lb' Φ' lb'' Φ'') : Imp P lb Φ lb'' Φ'' := fun ω w hr => k ω w (h ω w hr)
theorem Imp.facts (h : ∀ F ∈ Φ', F ∈ Φ) : Imp P lb Φ lb Φ' := fun _ _ hr => ⟨hr.st, fun F hF => hr.hold F (h F hF), hr.mu, hr.muM, hr.amb⟩
theorem sem_take (lb : LBs) (n : Nat) : sem (lb.take n) = (sem lb).take n := by simp [sem, List.map_take]
theorem Imp.take (n : Nat) : Imp P lb Φ (lb.take n) Φ := fun _ _ hr => by
  refine hr.move ?_ ?_ ?_ (Kept.refl _ _) ?_
  · rw [sem_take]; exact hr.st.take n
  · rw [sem_take]; exact hr.hold.kp (KP.trω (Tr.take _ n))
  · rw [sem_take]; exact Tr.take _ n
  · intro b lp xs s hi
    rw [nth_eq] at hi ⊢
    exact get_take hi
theorem Imp.eq (h : lb = lb') : Imp P lb Φ lb' Φ := h ▸ Imp.refl
/-- a new fact of facts that hold -/
theorem Imp.fact {F : Fact} (h : ∀ A w, Hold Φ A w → F.F A w) : Imp P lb Φ lb (F :: Φ) := fun _ _ hr => ⟨hr.st, Hold.cons (h _ _ hr.hold) hr.hold, hr.mu, hr.muM, hr.amb⟩
/-- a row of one's own is given up: nobody turns it any more -/
theorem Imp.pubVec (i : Nat) {b : Nat} {α : Type} {enc : α → List SV} {k n c : Nat} {t : TypeId} {p : Option Addr} {L : List α} (hi : nth lb i = some (b, .vec enc k t p n c L)) :
    Imp P lb Φ (lb.set i (b, .hole)) (slF enc k p n c L :: Φ) := fun ω w hr => by
  obtain ⟨g1, g2⟩ := hr.vec hi
  have hg := sem_get hi
  have hb : (ent (b, .hole)).real → (ent (b, .hole)).b = (ent (b, .vec enc k t p n c L)).b ∧ (ent (b, .vec enc k t p n c L)).real := fun h => h.elim
  refine hr.move ?_ ?_ ?_ (Kept.refl _ _) ?_
  · rw [sem_set]
    exact hr.st.put hg hb (fun _ _ _ => trivial) (fun _ => trivial)
  rotate_left
  · rw [sem_set]; exact Tr.put hg hb
  · intro b' lp xs s hi'
    rcases nth_set hi hi' with h | h
    · exact h
    · cases h
  · rw [sem_set]
    refine Hold.cons ⟨g1.2.2.2.1, g1.1, ?_⟩ (hr.hold.kp (KP.trω (Tr.put hg hb)))
    refine ⟨by rw [flat_length (fun x hx => (g1.2.2.2.1 x hx).1), g1.1], g1.2.1, g1.2.2.1, g1.2.2.2.2.2, ?_⟩
    rcases Nat.eq_zero_or_pos c with h0 | h0
    · exact .inl (by have := g1.2.1; omega)
    · obtain ⟨arr, fz, a1, az, a2, a3⟩ := g2 (by omega)
      have hle : n * k ≤ c * k := Nat.mul_le_mul_right _ g1.2.1
      have hreal : (ent (b, .vec enc k t p n c L)).real := show c ≠ 0 by omega
      refine .inr ⟨b, 0, arr, t, fz, g1.2.2.2.2.1 (by omega), ⟨?_, ?_, ?_⟩, a1, by omega, by simpa using a3⟩
      · intro j q hq hreal' e
        rcases get_set hg hq with ⟨rfl, rfl⟩ | ⟨hne, hq⟩
        · exact hreal'.elim
        · exact hne (hr.st.inj _ _ _ _ hq hg hreal' hreal (by rw [e]; rfl))
      · exact fun hm => (hr.notMu hi hreal).1 hm
      · have := ((hr.st.own _ _ hg).2 hreal).1
        rcases this with h | h
        · exact .inr (.inl h)
        · exact .inr (.inr h)
/-- what is asked of a result, said otherwise -/
def Post (P : Program) (R : SV → LBs → Facts → Prop) : SV → LBs → Facts → Prop := fun v lb Φ => ∃ v' lb' Φ', v.den = v'.den ∧ Imp P lb Φ lb' Φ' ∧ R v' lb' Φ'
theorem Ct.post {f : FuncId} {bs : LBs} {args : List SV} {R : SV → LBs → Facts → Prop} (h : Ct P f bs args Φ (Post P R)) : Ct P f bs args Φ R := ⟨fun M A w hr =>
  (h.h M A w hr).mono fun v w' ⟨r, bs', Ψ, hv, ⟨v', lb', Φ', h1, h2, h3⟩, hr'⟩ => ⟨v', lb', Φ', by rw [hv, h1], h3, h2 _ w' hr'⟩⟩
end Go.Proofs.YtikjigkkhdkibaaGreatDoor.W

/- Rules: loops, labels, cuts. Over any program. -/
namespace Go.Proofs.YtikjigkkhdkibaaGreatDoor.W
open Go.RowKit
variable {P : Program} {nt : Nat} {ro : Option Nat} {env env' : Env} {ds : List Deferred} {lb lb' : LBs} {Φ Φ' : Facts} {ω : Amb} {w : World}
/-- slots, said otherwise -/
def EnvLe (env : Env) : Env → Prop
  | [] => True
  | (t, v) :: r => (match lkp env t with
    | some u => u.den = v.den
    | none => False) ∧ EnvLe env r
theorem EnvLe.lkp : ∀ {env' : Env}, EnvLe env env' → ∀ {t : Nat} {v : SV}, lkp env' t = some v → ∃ u, lkp env t = some u ∧ u.den = v.den
  | [], _, _, _, h => by cases h
  | (t', v') :: r, hl, t, v, h => by
    unfold W.lkp at h
    split at h
    · rename_i hb
      obtain rfl : t' = t := Nat.eq_of_beq_eq_true hb
      cases h
      have h1 := hl.1
      split at h1
      · rename_i u hu
        exact ⟨u, hu, h1⟩
      · exact h1.elim
    · exact EnvLe.lkp hl.2 h
theorem RA.le {a : Act} (h : RA nt env ds a) (hl : EnvLe env env') : RA nt env' ds a :=
  ⟨h.size, fun t v hv => by
    obtain ⟨u, hu, he⟩ := hl.lkp hv
    rw [h.slot t u hu, he], h.defs⟩
/-- code may be shown by less than is known -/
theorem SemC.ok {c : Code} {Q : QT} (h : wpC P nt ro c env ds lb Φ Q) : SemC P nt ro c env ds lb Φ Q := ⟨fun _ _ _ hra hr => wpC_ok h hra hr⟩
theorem SemC.mono {c : Code} {Q Q' : QT} (h : SemC P nt ro c env ds lb Φ Q) (hq : ∀ e env ds lb Φ, Q e env ds lb Φ → Q' e env ds lb Φ) : SemC P nt ro c env ds lb Φ Q' :=
  ⟨fun ω a w hra hr => wpIn_mono (h.h ω a w hra hr) fun _ _ _ ⟨env, ds, lb, Φ, Mu, k1, k2, k3⟩ => ⟨env, ds, lb, Φ, Mu, k1, k2, hq _ _ _ _ _ k3⟩⟩
theorem SemC.le {c : Code} {Q : QT} (hl : EnvLe env env') (hi : Imp P lb Φ lb' Φ') (h : SemC P nt ro c env' ds lb' Φ' Q) : SemC P nt ro c env ds lb Φ Q :=
  ⟨fun ω a w hra hr => h.h ω a w (hra.le hl) (hi ω w hr)⟩
/-- what is behind an end, said otherwise -/
structure Le (P : Program) (env : Env) (lb : LBs) (Φ : Facts) (env' : Env) (lb' : LBs) (Φ' : Facts) : Prop where
  e : EnvLe env env'
  i : Imp P lb Φ lb' Φ'
/-- a loop: E, B, F: what is known ahead of a round, of some x that meets I; each round lowers μ -/
theorem SemC.loop {c : Code} {Q : QT} {ι : Type} (E : ι → Env) (B : ι → LBs) (F : ι → Facts) (I : ι → Prop) (μ : ι → Nat) (x0 : ι) (h0 : I x0) (hl : Le P env lb Φ (E x0) (B x0) (F x0))
    (round : ∀ x, I x → wpC P nt ro c (E x) ds (B x) (F x) fun e env ds' lb Φ => match e with
      | .normal => ∃ y, I y ∧ μ y < μ x ∧ ds' = ds ∧ Le P env lb Φ (E y) (B y) (F y)
      | e => Q e env ds' lb Φ) : SemC P nt ro (.loop c) env ds lb Φ Q := by
  refine ⟨fun ω a w hra hr => ?_⟩
  refine c_loopN (fun x a w => I x ∧ RA nt (E x) ds a ∧ ∃ Mu, Rel P (B x) (F x) (ω.mu Mu) w) μ x0 ⟨h0, hra.le hl.e, ω.Mu, hl.i ω _ hr⟩ ?_
  rintro x a w ⟨hx, h1, Mu, h2⟩
  refine wpIn_mono (wpC_ok (round x hx) h1 h2) ?_
  rintro e a w ⟨env, ds', lb, Φ, Mu', k1, k2, k3⟩
  cases e with
  | normal =>
    obtain ⟨y, hy, hlt, rfl, hle⟩ := k3
    exact ⟨y, hlt, hy, k1.le hle.e, Mu', hle.i _ _ k2⟩
  | _ => exact ⟨_, _, _, _, Mu', k1, k2, k3⟩
/-- a scope whose body may jump to labels: what is known at each label -/
theorem SemC.scope {c : Code} {Q : QT} (J : Nat → List Deferred → Env → LBs → Facts → Prop) (hJ : ∀ i ds env lb Φ, J i ds env lb Φ → ∃ rest, findLabel c i = some rest ∧ wpC P nt ro rest env ds lb Φ fun e env ds lb Φ => match e with
      | .goto _ => False
      | e => Q e env ds lb Φ)
    (h : wpC P nt ro c env ds lb Φ fun e env ds lb Φ => match e with
      | .goto i => J i ds env lb Φ
      | e => Q e env ds lb Φ) : SemC P nt ro (.scope c) env ds lb Φ Q := by
  refine ⟨fun ω a w hra hr => ?_⟩
  refine c_scopeJ (fun i a w => ∃ env ds lb Φ Mu, RA nt env ds a ∧ Rel P lb Φ (ω.mu Mu) w ∧ J i ds env lb Φ) ?_ ?_
  · rintro i a w ⟨env, ds, lb, Φ, Mu, k1, k2, k3⟩
    obtain ⟨rest, hf, hw⟩ := hJ _ _ _ _ _ k3
    refine ⟨rest, hf, wpIn_mono (wpC_ok hw k1 k2) ?_⟩
    rintro e a w ⟨env, ds, lb, Φ, Mu', k1, k2, k3⟩
    cases e with
    | goto i => exact k3
    | _ => exact ⟨_, _, _, _, Mu', k1, k2, k3⟩
  · refine wpIn_mono (wpC_ok h hra hr) ?_
    rintro e a w ⟨env, ds, lb, Φ, Mu, k1, k2, k3⟩
    cases e with
    | goto i => exact ⟨_, _, _, _, _, k1, k2, k3⟩
    | _ => exact ⟨_, _, _, _, _, k1, k2, k3⟩
/-- two pieces of code, one behind the other: what is known between them -/
theorem wpC_cut {c : Code} {Q : QT} (Q' : QT) (h : wpC P nt ro c env ds lb Φ Q') (hq : ∀ e env ds lb Φ, Q' e env ds lb Φ → Q e env ds lb Φ) : SemC P nt ro c env ds lb Φ Q := SemC.mono (SemC.ok h) hq
end Go.Proofs.YtikjigkkhdkibaaGreatDoor.W

/- A statement whose order Go leaves open. Over any program. -/
namespace Go.Proofs.YtikjigkkhdkibaaGreatDoor.W
open Go.RowKit

section
variable {P : Program} {ro : Option Nat} {md : Region.Mode} {ops : Array Oper} {S S' : World → Prop} {K : Act → World → Prop}

/-- those for which number k waits -/
def depsOf (md : Region.Mode) (ops : Array Oper) (k : Nat) : List Nat :=
  match ops[k]? with
  | none => []
  | some o => (o.after.toList.filter (Region.binds md)).map (·.on)
theorem depsOf_spec {md : Region.Mode} {ops : Array Oper} {k e : Nat} (h : e ∈ depsOf md ops k) : ∃ o, ops[k]? = some o ∧ ∃ x ∈ o.after, Region.binds md x = true ∧ x.on = e := by
  unfold depsOf at h
  split at h
  · simp at h
  · rename_i o ho
    simp only [List.mem_map, List.mem_filter] at h
    obtain ⟨x, ⟨h1, h2⟩, h3⟩ := h
    exact ⟨o, ho, x, by simpa using h1, h2, h3⟩
/-- number j waits for it, at last -/
inductive Path (md : Region.Mode) (ops : Array Oper) (j : Nat) : Nat → Prop where
  | here : Path md ops j j
  | step {k e : Nat} : Path md ops j k → e ∈ depsOf md ops k → Path md ops j e
def ancs (md : Region.Mode) (ops : Array Oper) : Nat → List Nat → List Nat
  | 0, S => S
  | f + 1, S => match (S.flatMap (depsOf md ops)).filter fun k => !S.contains k with
    | [] => S
    | new => ancs md ops f (S ++ new.eraseDups)
theorem mem_eraseDups' {k : Nat} {l : List Nat} (h : k ∈ l.eraseDups) : k ∈ l := List.mem_eraseDups.1 h
theorem ancs_path {md : Region.Mode} {ops : Array Oper} {j : Nat} : ∀ (f : Nat) (S : List Nat), (∀ k ∈ S, Path md ops j k) → ∀ k ∈ ancs md ops f S, Path md ops j k
  | 0, S, h, k, hk => h k hk
  | f + 1, S, h, k, hk => by
    unfold ancs at hk
    split at hk
    · exact h k hk
    · rename_i new hnew
      refine ancs_path f _ (fun k hk => ?_) k hk
      rcases List.mem_append.1 hk with hk | hk
      · exact h k hk
      · have hk := (List.mem_filter.1 (mem_eraseDups' hk)).1
        obtain ⟨x, hx, hk⟩ := List.mem_flatMap.1 hk
        exact .step (h x hx) hk
/-- of two one waits for the other -/
def cmpB (md : Region.Mode) (ops : Array Oper) (j k : Nat) : Bool := k == j || (ancs md ops ops.size [j]).contains k || (ancs md ops ops.size [k]).contains j
/-- each other one waits for number i, or number i for it -/
def lone (md : Region.Mode) (ops : Array Oper) (j : Nat) : Bool := (List.range ops.size).all fun k => cmpB md ops j k
/-- what is listed, with all for which it waits -/
def Closed (md : Region.Mode) (ops : Array Oper) (listed : Array Bool) : Prop := ∀ k, listed.getD k false = true → ∀ e ∈ depsOf md ops k, listed.getD e false = true
theorem Closed.start (md : Region.Mode) (ops : Array Oper) (n : Nat) : Closed md ops (Array.replicate n false) := fun k h => by
  rw [Array.getD_eq_getD_getElem?, Array.getElem?_replicate] at h
  split at h <;> cases h
theorem ready_deps {md : Region.Mode} {ops : Array Oper} {listed : Array Bool} {j e : Nat} (h : j ∈ Region.ready md ops listed) (he : e ∈ depsOf md ops j) : listed.getD e false = true := by
  obtain ⟨_, o, ho, h1⟩ := mem_ready.1 h
  obtain ⟨o', ho', x, hx, hb, rfl⟩ := depsOf_spec he
  rw [ho] at ho'; cases ho'
  exact h1 x hx hb
theorem Closed.set {md : Region.Mode} {ops : Array Oper} {listed : Array Bool} {j : Nat} (h : Closed md ops listed) (hj : j ∈ Region.ready md ops listed) : Closed md ops (listed.setIfInBounds j true) := by
  have mono : ∀ e, listed.getD e false = true → (listed.setIfInBounds j true).getD e false = true := fun e he => by
    rw [Array.getD_eq_getD_getElem?] at he ⊢
    rw [Array.getElem?_setIfInBounds]
    split
    · rename_i e1
      subst e1
      split
      · rfl
      · rename_i hlt
        rw [Array.getElem?_eq_none (by omega)] at he
        cases he
    · exact he
  intro k hk e he
  by_cases e1 : j = k
  · subst e1
    exact mono e (ready_deps hj he)
  · refine mono e (h k ?_ e he)
    rw [Array.getD_eq_getD_getElem?] at hk ⊢
    rwa [Array.getElem?_setIfInBounds_ne e1] at hk
theorem Path.listed {md : Region.Mode} {ops : Array Oper} {listed : Array Bool} {j k : Nat} (hc : Closed md ops listed) (hj : ∀ e ∈ depsOf md ops j, listed.getD e false = true) (h : Path md ops j k) : k = j ∨ listed.getD k false = true := by
  induction h with
  | here => exact .inl rfl
  | step _ he ih =>
    rcases ih with rfl | ih
    · exact .inr (hj _ he)
    · exact .inr (hc _ ih _ he)
theorem not_listed {listed : Array Bool} {k : Nat} (h : listed.getD k true = false) : listed.getD k false ≠ true := by
  rw [Array.getD_eq_getD_getElem?] at h ⊢
  cases h1 : listed[k]? with
  | none => simp
  | some b => rw [h1] at h; simp at h ⊢; exact h
theorem cmp_spec {md : Region.Mode} {ops : Array Oper} {listed : Array Bool} {i j : Nat} (h1 : cmpB md ops j i = true) (hc : Closed md ops listed) (hi : i ∈ Region.ready md ops listed) (hj : j ∈ Region.ready md ops listed) (hne : i ≠ j) : False := by
  simp only [cmpB, Bool.or_eq_true, beq_iff_eq, hne, false_or, List.contains_iff_mem] at h1
  have ui := not_listed (mem_ready.1 hi).1
  have uj := not_listed (mem_ready.1 hj).1
  rcases h1 with h1 | h1
  · have hp := ancs_path (j := j) _ [j] (by simpa using Path.here) _ h1
    rcases hp.listed hc (fun e he => ready_deps hj he) with e | e
    · exact hne e
    · exact ui e
  · have hp := ancs_path (j := i) _ [i] (by simpa using Path.here) _ h1
    rcases hp.listed hc (fun e he => ready_deps hi he) with e | e
    · exact hne e.symm
    · exact uj e
def opStep (P : Program) (ro : Option Nat) (ops : Array Oper) (i : Nat) (K : Act → World → Prop) (a : Act) (w : World) : Prop :=
  match ops[i]? with
  | none => K a w
  | some o => Ops P ro ops [o] a w K
/-- whatever order is picked from here on; S holds behind every operation that is not loud, T behind every one that is not wild; both may come to say more -/
def Any (P : Program) (ro : Option Nat) (md : Region.Mode) (ops : Array Oper) (ld wd : Nat → Bool) (K : Act → World → Prop) : Nat → (World → Prop) → (World → Prop) → Array Bool → Act → World → Prop
  | 0, _, _, listed, a, w => Region.ready md ops listed = [] ∧ K a w
  | fuel + 1, S, T, listed, a, w =>
    (Region.ready md ops listed = [] → K a w) ∧
    ∀ i ∈ Region.ready md ops listed, opStep P ro ops i (fun a' w' => ∃ S' T' : World → Prop, (ld i = false → S w' ∧ ∀ w, S' w → S w) ∧ (wd i = false → T w' ∧ ∀ w, T' w → T w) ∧ S' w' ∧ T' w' ∧ Any P ro md ops ld wd K fuel S' T' (listed.setIfInBounds i true) a' w') a w
theorem wpIn_change {F : Fence} {n : Nat} {o : Oper} {a : Act} {w : World} {K K' : Act → World → Prop} {Q Q' : Exit → Act → World → Prop} (hQ : ∀ c a w, ¬ Q (.panic c) a w) (hO : ∀ a w, ¬ Q .outgrown a w)
    (h : ∀ a w, K a w → K' a w) (hh : o.wpIn F n P a w K Q) : o.wpIn F n P a w K' Q' := by
  refine ⟨hh.1, ?_⟩
  have h2 := hh.2
  revert h2
  generalize (o.semAt F.round a.eval).run P w = r
  intro h2
  cases r with
  | ok n w' =>
    cases n <;> simp only [Oper.uponIn] at h2 ⊢ <;> first
      | exact h _ _ h2
      | (refine ⟨h2.1, CallsIn.mono h2.2 ?_⟩; intro e w'' he; cases e <;> first | exact h _ _ he | exact absurd he (hQ _ _ _) | (obtain ⟨_, _, h⟩ := he; exact absurd h (hO _ _)))
      | (refine ⟨h2.1, RoundIn.mono h2.2 ?_⟩; intro e w'' he; cases e <;> first | exact h _ _ he | exact absurd he (hQ _ _ _) | (obtain ⟨_, _, h⟩ := he; exact absurd h (hO _ _)))
      | (refine ⟨h2.1, RowsIn.mono h2.2 ?_⟩; intro e w'' he; exact h _ _ he)
  | halt x w' => cases x <;> simp only [Oper.uponIn] at h2 ⊢; exact absurd h2 (hQ _ _ _)
theorem Ops.mono1 {o : Oper} {a : Act} {w : World} {K K' : Act → World → Prop} (h : ∀ a w, K a w → K' a w) (hh : Ops P ro ops [o] a w K) : Ops P ro ops [o] a w K' := by
  unfold Ops wpListIn at *
  split
  · rename_i hw
    rw [if_pos hw] at hh
    exact wpIn_change (fun _ _ _ h => h) (fun _ _ h => h) (fun a w q => h a w q) hh
  · rename_i hw
    rw [if_neg hw] at hh
    exact ⟨hh.1, h _ _ hh.2⟩
theorem wpOpIn_of_ops {i : Nat} {a : Act} {w : World} {K K' : Act → World → Prop} {Q : Exit → Act → World → Prop} (h : ∀ a w, K a w → K' a w) (hh : opStep P ro ops i K a w) : wpOpIn (FW ro) 0 P ops Q i K' a w := by
  unfold opStep at hh
  unfold wpOpIn
  split
  · rename_i ho; simp only [ho] at hh; exact h _ _ hh
  · rename_i o ho
    simp only [ho] at hh
    unfold Ops wpListIn at hh
    split
    · rename_i hw
      rw [if_pos hw] at hh
      exact wpIn_change (fun _ _ _ h => h) (fun _ _ h => h) (fun a w q => h a w q) hh
    · rename_i hw
      rw [if_neg hw] at hh
      exact ⟨hh.1, h _ _ hh.2⟩
theorem any_sound {Q : Exit → Act → World → Prop} (hK : ∀ a w, K a w → Q .normal a w) : ∀ {ld wd : Nat → Bool} (fuel : Nat) (S T : World → Prop) (listed : Array Bool) (a : Act) (w : World), Any P ro md ops ld wd K fuel S T listed a w → wpAnyIn (FW ro) 0 P md ops Q fuel listed a w
  | _, _, 0, _, _, _, _, _, h => ⟨h.1, hK _ _ h.2⟩
  | _, _, fuel + 1, _, _, _, _, _, h => ⟨fun h0 => hK _ _ (h.1 h0), fun i hi => wpOpIn_of_ops (fun a' w' ⟨S', T', _, _, _, _, h'⟩ => any_sound hK fuel S' T' _ a' w' h') (h.2 i hi)⟩
/-- in every world that meets S the operation yields v, and does nothing else -/
def Yv (P : Program) (ops : Array Oper) (S : World → Prop) (o : Oper) (v : Value) (a : Act) : Prop :=
  (∀ c, o.op ≠ .defer c) ∧ ((Region.wanted o (yielded ops a.tmps) = true ∧ ∀ w, S w → (execOp a.eval o).run P w = .ok (.value v) w) ∨
  (Region.wanted o (yielded ops a.tmps) = false ∧ v = Go.undef))
theorem Yv.step {i : Nat} {o : Oper} {v : Value} {a : Act} {w : World} (hi : ops[i]? = some o) (hy : Yv P ops S o v a) (hS : S w) {K : Act → World → Prop} (h : K (a.put o.dst v) w) : opStep P ro ops i K a w := by
  unfold opStep
  simp only [hi]
  obtain ⟨hd, ⟨hw, hv⟩ | ⟨hw, rfl⟩⟩ := hy
  · exact o_next hw hd (hv w hS) (.inl rfl) h
  · exact o_skip hw h
theorem Yv.of_same {o : Oper} {v : Value} {a a' : Act} (hy : Yv P ops S o v a) (he : execOp a'.eval o = execOp a.eval o)
    (hw : Region.wanted o (yielded ops a'.tmps) = Region.wanted o (yielded ops a.tmps)) : Yv P ops S o v a' := by
  unfold Yv at *
  rw [he, hw]
  exact hy
theorem opStep_put {j : Nat} {oi oj : Oper} {v : Value} (hj : ops[j]? = some oj) (hap : oi.apart ops oj = true)
    (hsi : ∀ cs b, oi.op ≠ .select cs b) (hsj : ∀ cs b, oj.op ≠ .select cs b) (hdj : ∀ c, oj.op ≠ .defer c) {K : Act → World → Prop} {a : Act} {w : World}
    (hy : Yv P ops S oi v a) (h : opStep P ro ops j K (a.put oi.dst v) w) :
    opStep P ro ops j (fun a' w' => Yv P ops S oi v a' ∧ K (a'.put oi.dst v) w') a w := by
  obtain ⟨h1, h2, h3⟩ := Oper.apart_spec hap
  have keep : ∀ (a : Act), Yv P ops S oi v a → ∀ u, Yv P ops S oi v (a.put oj.dst u) := fun a hy u =>
    hy.of_same (execOp_put oi hsi a oj.dst u h3) (wanted_put oi a oj.dst u h3)
  have hsem : ∀ a : Act, oj.semAt ro a.eval = execOp a.eval oj := fun a => by
    cases ro with
    | none => rfl
    | some r => exact Oper.semAt_some r _ _ hdj
  unfold opStep at *
  simp only [hj] at *
  unfold Ops wpListIn at *
  rw [wanted_put oj a oi.dst v h1] at h
  split
  · rename_i hw
    rw [if_pos hw] at h
    refine ⟨fun _ _ => trivial, ?_⟩
    have h4 := h.2
    rw [FW_round, hsem, execOp_put oj hsj a oi.dst v h1] at h4
    rw [FW_round, hsem]
    revert h4
    generalize (execOp a.eval oj).run P w = r
    intro h4
    cases r with
    | ok n w' =>
      cases n <;> simp only [Oper.uponIn] at h4 ⊢
      case value u => exact ⟨keep a hy u, by have := h4; rw [Act.put_comm a v u h2] at this; exact this⟩
      case skip => exact ⟨keep a hy _, by have := h4; rw [Act.put_comm a v Go.undef h2] at this; exact this⟩
      case defer d =>
        refine ⟨keep { a with defers := d :: a.defers } (hy.of_same rfl rfl) _, ?_⟩
        have := h4
        rw [Act.put_defers, Act.put_comm _ v Go.undef h2] at this
        exact this
      case enter f args =>
        refine ⟨h4.1, CallsIn.mono h4.2 fun e w'' he => ?_⟩
        cases e with
        | returned u => exact ⟨keep a hy u, by have := he; simp only at this; rw [Act.put_comm a v u h2] at this; exact this⟩
        | panicked c => exact he.elim
        | outgrown => obtain ⟨_, _, h⟩ := he; exact h.elim
      case row row args => exact ⟨h4.1, RowsIn.mono h4.2 fun u w'' he => ⟨keep a hy u, by have := he; rw [Act.put_comm a v u h2] at this; exact this⟩⟩
      case round l f t x y =>
        refine ⟨h4.1, RoundIn.mono h4.2 fun e w'' he => ?_⟩
        cases e with
        | returned u => exact ⟨keep a hy u, by have := he; simp only at this; rw [Act.put_comm a v u h2] at this; exact this⟩
        | panicked c => exact he.elim
        | outgrown => obtain ⟨_, _, h⟩ := he; exact h.elim
    | halt x w' =>
      cases x <;> simp only [Oper.uponIn] at h4 ⊢
  · rename_i hw
    rw [if_neg hw] at h
    refine ⟨fun _ _ => trivial, keep a hy _, ?_⟩
    have := h.2
    rw [Act.put_comm a v Go.undef h2] at this
    exact this
theorem Yv.less {o : Oper} {v : Value} {a : Act} (hy : Yv P ops S o v a) (hS : ∀ w, S' w → S w) : Yv P ops S' o v a :=
  ⟨hy.1, hy.2.imp (fun h => ⟨h.1, fun w hw => h.2 w (hS w hw)⟩) id⟩
/-- one of two -/
def pickB {α : Type _} (wide : Bool) (x y : α) : α := match wide with
  | true => x
  | false => y
theorem any_first {ld wd : Nat → Bool} {i : Nat} {oi : Oper} {v : Value} (wide : Bool) (hld : ∀ j, pickB wide (wd j) (ld j || wd j) = true → cmpB md ops j i = true) (hi : ops[i]? = some oi) (hsel : ∀ (j : Nat) (o : Oper) cs b, ops[j]? = some o → o.op ≠ .select cs b) (hdef : ∀ (j : Nat) (o : Oper) c, ops[j]? = some o → o.op ≠ .defer c) :
    ∀ (fuel : Nat) (S T : World → Prop) (listed : Array Bool) (a : Act) (w : World),
      (∀ j oj, ops[j]? = some oj → j ≠ i → listed.getD j true = false → (∀ e ∈ oj.after, Region.binds md e = true → e.on ≠ i) → oi.apart ops oj = true) →
      Closed md ops listed → i ∈ Region.ready md ops listed → Yv P ops (pickB wide T S) oi v a → S w → T w →
      Any P ro md ops ld wd K fuel S T (listed.setIfInBounds i true) (a.put oi.dst v) w → Any P ro md ops ld wd K (fuel + 1) S T listed a w := by
  intro fuel
  have here : ∀ (fuel : Nat) (S T : World → Prop) (listed : Array Bool) (a : Act) (w : World), Yv P ops (pickB wide T S) oi v a → S w → T w → Any P ro md ops ld wd K fuel S T (listed.setIfInBounds i true) (a.put oi.dst v) w →
      opStep P ro ops i (fun a' w' => ∃ S' T' : World → Prop, (ld i = false → S w' ∧ ∀ w, S' w → S w) ∧ (wd i = false → T w' ∧ ∀ w, T' w → T w) ∧ S' w' ∧ T' w' ∧ Any P ro md ops ld wd K fuel S' T' (listed.setIfInBounds i true) a' w') a w := by
    intro fuel S T listed a w hy hS hT H
    refine hy.step hi (by cases wide <;> first | exact hS | exact hT) ⟨S, T, fun _ => ⟨hS, fun _ h => h⟩, fun _ => ⟨hT, fun _ h => h⟩, hS, hT, H⟩
  induction fuel with
  | zero =>
    intro S T listed a w _ _ hr hy hS hT H
    refine ⟨fun h => (by rw [h] at hr; cases hr), fun j hj => ?_⟩
    by_cases hji : j = i
    · subst hji; exact here _ _ _ _ _ _ hy hS hT H
    · have := ready_mono hj hji
      rw [H.1] at this
      cases this
  | succ fuel ih =>
    intro S T listed a w hfree hcl hr hy hS hT H
    refine ⟨fun h => (by rw [h] at hr; cases hr), fun j hj => ?_⟩
    by_cases hji : j = i
    · subst hji; exact here _ _ _ _ _ _ hy hS hT H
    · have h1 := H.2 j (ready_mono hj hji)
      obtain ⟨hjun, oj, hoj, hall⟩ := mem_ready.1 hj
      have hnot : ∀ e ∈ oj.after, Region.binds md e = true → e.on ≠ i := fun e he hb heq => by
        have h1 := hall e he hb
        have h0 := (mem_ready.1 hr).1
        rw [heq] at h1
        rcases Nat.lt_or_ge i listed.size with h' | h'
        · simp [h'] at h0 h1; rw [h0] at h1; cases h1
        · simp [Array.getElem?_eq_none h'] at h1
      have h2 := opStep_put hoj (hfree j oj hoj hji hjun hnot) (fun cs b => hsel i oi cs b hi) (fun cs b => hsel j oj cs b hoj) (fun c => hdef j oj c hoj) hy h1
      have hfree' : ∀ k ok, ops[k]? = some ok → k ≠ i → (listed.setIfInBounds j true).getD k true = false →
          (∀ e ∈ ok.after, Region.binds md e = true → e.on ≠ i) → oi.apart ops ok = true := fun k ok hk hki hun hno => by
        refine hfree k ok hk hki ?_ hno
        by_cases hjk : j = k
        · subst hjk; exact hjun
        · rw [getD_set_ne true hjk] at hun; exact hun
      have hri := ready_mono hr (Ne.symm hji)
      unfold opStep at h2 ⊢
      simp only [hoj] at h2 ⊢
      refine Ops.mono1 (fun a' w' h3 => ?_) h2
      have hnl : pickB wide (wd j) (ld j || wd j) ≠ true := fun h => cmp_spec (hld j h) hcl hr hj (Ne.symm hji)
      obtain ⟨hyv, S', T', hS', hT', hS1, hT1, hany⟩ := h3
      refine ⟨S', T', hS', hT', hS1, hT1, ih S' T' (listed.setIfInBounds j true) a' w' hfree' (hcl.set hj) hri (hyv.less fun w h => ?_) hS1 hT1 ?_⟩
      · cases wide with
        | true => exact (hT' (by simpa [pickB] using hnl)).2 w h
        | false => exact (hS' (by simp [pickB] at hnl; exact hnl.1)).2 w h
      · rw [Array.setIfInBounds_comm _ _ (Ne.symm hji)] at hany
        exact hany
/-! the moves -/
def noDefer (ops : Array Oper) : Bool := ops.all fun o => match o.op with | .select .. => false | .defer _ => false | _ => true
theorem noDefer_spec (h : noDefer ops = true) (j : Nat) (o : Oper) (c : Call) (ho : ops[j]? = some o) : o.op ≠ .defer c := fun he => by
  have h1 := Array.all_eq_true.1 h j (Array.getElem?_eq_some_iff.1 ho).1
  rw [(Array.getElem?_eq_some_iff.1 ho).2, he] at h1
  cases h1
theorem noDefer_sel (h : noDefer ops = true) (j : Nat) (o : Oper) (cs : Array SelectCase) (b : Bool) (ho : ops[j]? = some o) : o.op ≠ .select cs b := fun he => by
  have h1 := Array.all_eq_true.1 h j (Array.getElem?_eq_some_iff.1 ho).1
  rw [(Array.getElem?_eq_some_iff.1 ho).2, he] at h1
  cases h1
/-- may number i be taken first? -/
def mayTake (ops : Array Oper) (listed : Array Bool) (i : Nat) : Bool := noDefer ops && Region.free .any ops listed i && (Region.ready .any ops listed).contains i
/-- an order: t: it is taken first, it is pure, and each loud one waits for it or it for that; m: it is pure, and asks nothing of the blocks that are masked; s: it alone may come up; w: it alone, and it turns masked blocks; l: it alone, whatever it does -/
inductive Pk where
  | t (i : Nat)
  | m (i : Nat)
  | s (i : Nat)
  | w (i : Nat)
  | l (i : Nat)
def isLd (r : List Pk) (j : Nat) : Bool := r.any fun p => match p with
  | .w n => n == j
  | .l n => n == j
  | _ => false
def isWd (r : List Pk) (j : Nat) : Bool := r.any fun p => match p with
  | .l n => n == j
  | _ => false
def okSched (ops : Array Oper) (ld wd : Nat → Bool) : List Pk → Array Bool → Bool
  | [], listed => (Region.ready .any ops listed).isEmpty
  | .t n :: r, listed => mayTake ops listed n && ((List.range ops.size).all fun j => !(ld j || wd j) || cmpB .any ops j n) && okSched ops ld wd r (listed.setIfInBounds n true)
  | .m n :: r, listed => mayTake ops listed n && ((List.range ops.size).all fun j => !(wd j) || cmpB .any ops j n) && okSched ops ld wd r (listed.setIfInBounds n true)
  | .s n :: r, listed => Region.ready .any ops listed == [n] && okSched ops ld wd r (listed.setIfInBounds n true)
  | .w n :: r, listed => Region.ready .any ops listed == [n] && ld n && okSched ops ld wd r (listed.setIfInBounds n true)
  | .l n :: r, listed => Region.ready .any ops listed == [n] && ld n && wd n && okSched ops ld wd r (listed.setIfInBounds n true)
end
/-- what tells a block from others: where it lies; nought: nowhere -/
def keyOf : Nat × OB → Nat × Nat
  | (b, .vec _ _ _ _ _ c _) => (b, c)
  | (b, .hole) => (b, 0)
  | (b, .seq _ _ _) => (b, 0)
  | (b, _) => (b, 1)
theorem keyOf_real (e : Nat × OB) : ((ent e).real ↔ (keyOf e).2 ≠ 0) ∧ (ent e).b = e.1 ∧ (keyOf e).1 = e.1 := by
  obtain ⟨b, o⟩ := e
  cases o <;> simp [ent, keyOf]
noncomputable def keysOf (lb : LBs) (mk : List Nat) : List (Nat × Nat) :=
  List.rec (motive := fun _ => List (Nat × Nat)) [] (fun i _ ih => match nth lb i with
    | some e => keyOf e :: ih
    | none => (0, 0) :: ih) mk
/-- the blocks of these -/
def MsOf (ks : List (Nat × Nat)) : Nat → Prop := fun b => ∃ c, (b, c) ∈ ks ∧ c ≠ 0
theorem keys_iff {lb : LBs} {b : Nat} : ∀ {mk : List Nat}, MsOf (keysOf lb mk) b ↔ MkOf lb mk b
  | [] => by simp [MsOf, MkOf, keysOf]
  | i :: mk => by
    have ih := keys_iff (lb := lb) (b := b) (mk := mk)
    have e : keysOf lb (i :: mk) = (match nth lb i with | some e => keyOf e :: keysOf lb mk | none => (0, 0) :: keysOf lb mk) := rfl
    rw [e]
    constructor
    · rintro ⟨c, h1, h2⟩
      cases hn : nth lb i with
      | none =>
        rw [hn] at h1
        rcases List.mem_cons.1 h1 with h1 | h1
        · cases h1; exact absurd rfl h2
        · obtain ⟨j, hj, r⟩ := ih.1 ⟨c, h1, h2⟩
          exact ⟨j, List.mem_cons_of_mem _ hj, r⟩
      | some x =>
        rw [hn] at h1
        obtain ⟨k1, k2, k3⟩ := keyOf_real x
        rcases List.mem_cons.1 h1 with h1 | h1
        · refine ⟨i, List.mem_cons_self, x, hn, ?_, ?_⟩
          · rw [k1, ← h1]; exact h2
          · rw [k2, ← k3, ← h1]
        · obtain ⟨j, hj, r⟩ := ih.1 ⟨c, h1, h2⟩
          exact ⟨j, List.mem_cons_of_mem _ hj, r⟩
    · rintro ⟨j, hj, x, hx, hr, hb⟩
      obtain ⟨k1, k2, k3⟩ := keyOf_real x
      rcases List.mem_cons.1 hj with rfl | hj
      · rw [hx]
        refine ⟨(keyOf x).2, List.mem_cons.2 (.inl ?_), k1.1 hr⟩
        rw [← hb, k2, ← k3]
      · obtain ⟨c, h1, h2⟩ := ih.2 ⟨j, hj, x, hx, hr, hb⟩
        refine ⟨c, ?_, h2⟩
        cases nth lb i <;> exact List.mem_cons_of_mem _ h1
/-- these blocks, unknown -/
def maskK : LBs → List Nat → (LBs → Prop) → Prop
  | lb, [], k => k lb
  | lb, i :: mk, k => match nth lb i with
    | some e => setK lb i (e.1, .hole) fun lb => maskK lb mk k
    | none => False
theorem maskK_ok : ∀ {mk : List Nat} {lb : LBs} {k : LBs → Prop}, maskK lb mk k → ∃ lb', k lb' ∧ (∀ i e, nth lb' i = some e → (∃ b, e = (b, .hole)) ∨ (nth lb i = some e ∧ i ∉ mk))
  | [], lb, k, h => ⟨lb, h, fun i e he => .inr ⟨he, by simp⟩⟩
  | j :: mk, lb, k, h => by
    unfold maskK at h
    split at h
    · rename_i x hx
      rw [setK_eq] at h
      obtain ⟨lb', h1, h2⟩ := maskK_ok h
      refine ⟨lb', h1, fun i e he => ?_⟩
      rcases h2 i e he with h3 | ⟨h3, h4⟩
      · exact .inl h3
      · have h3' := h3
        rw [nth_eq] at h3' hx
        rcases get_set hx h3' with ⟨h5, h6⟩ | ⟨h5, h6⟩
        · exact .inl ⟨_, h6⟩
        · refine .inr ⟨by rw [nth_eq]; exact h6, ?_⟩
          intro hm
          rcases List.mem_cons.1 hm with e1 | e1
          · exact h5 e1
          · exact h4 e1
    · exact h.elim
theorem Rel.mask {P : Program} {lb lb' : LBs} {Φ : Facts} {ω : Amb} {w w' : World} {mk : List Nat} (h : Rel P lb Φ ω w) (hk : Kept (MkOf lb mk) w w') (hm : ∀ i e, nth lb' i = some e → (∃ b, e = (b, .hole)) ∨ (nth lb i = some e ∧ i ∉ mk)) : Rel P lb' Φ ω w' := by
  have back : ∀ (i : Nat) (p : Ent), (sem lb')[i]? = some p → p.real → (sem lb)[i]? = some p ∧ i ∉ mk := fun i p hp hr => by
    obtain ⟨e, he, rfl⟩ : ∃ e, lb'[i]? = some e ∧ ent e = p := by simpa [sem] using hp
    rcases hm i e (by rw [nth_eq]; exact he) with ⟨b, rfl⟩ | ⟨h1, h2⟩
    · exact hr.elim
    · exact ⟨sem_get h1, h2⟩
  have own : ∀ b, MkOf lb mk b → ∃ (i : Nat) (p : Ent), i ∈ mk ∧ (sem lb)[i]? = some p ∧ p.real ∧ p.b = b := fun b ⟨i, hi, e, he, hr, hb⟩ => ⟨i, ent e, hi, sem_get he, hr, hb⟩
  have off : ∀ b, Off (sem lb) b → Off (sem lb') b := fun b ho i p hp hr => ho i p (back i p hp hr).1 hr
  have nmk : ∀ b, Off (sem lb) b → ¬ MkOf lb mk b := fun b ho hm => by
    obtain ⟨i, p, _, hp, hr, e⟩ := own b hm
    exact ho i p hp hr e
  refine ⟨⟨?_, fun i j p q hp hq hr hr' e => h.st.inj i j p q (back i p hp hr).1 (back j q hq hr').1 hr hr' e, fun i p hp => ?_⟩, ?_, fun b hb => ⟨Nat.lt_of_lt_of_le (h.mu b hb).1 hk.size, off b (h.mu b hb).2⟩, h.muM, fun b lp xs s hi => ?_⟩
  · have k0 := h.st.kept
    refine ⟨hk.os.trans k0.os, hk.tape.trans k0.tape, hk.output.trans k0.output, Nat.le_trans k0.size hk.size, fun b hb hM => ?_⟩
    refine (hk.block b (Nat.lt_of_lt_of_le hb k0.size) fun hmk => ?_).trans (k0.block b hb hM)
    obtain ⟨i, p, _, hp, hr, e⟩ := own b hmk
    rcases ((h.st.own i p hp).2 hr).1 with h1 | h1
    · exact hM (e ▸ h1)
    · have hb' : b < ω.w0.heap.size := hb; omega
  · refine ⟨?_, fun hr => ?_⟩
    · obtain ⟨e, he, rfl⟩ : ∃ e, lb'[i]? = some e ∧ ent e = p := by simpa [sem] using hp
      rcases hm i e (by rw [nth_eq]; exact he) with ⟨b, rfl⟩ | ⟨h1, _⟩
      · trivial
      · exact (h.st.own i _ (sem_get h1)).1
    · obtain ⟨h1, h2⟩ := back i p hp hr
      obtain ⟨h3, o, h4, h5⟩ := (h.st.own i p h1).2 hr
      refine ⟨h3, o, (hk.block _ (lt_of_some h4) fun hmk => ?_).trans h4, h5⟩
      obtain ⟨j, q, hj, hq, hr', e⟩ := own _ hmk
      have := h.st.inj _ _ _ _ h1 hq hr hr' e.symm
      subst this
      exact h2 hj
  · exact h.hold.kp fun b hlt hb => ⟨⟨off b hb.1, hb.2⟩, hk.block b hlt (nmk b hb.1)⟩
  · rcases hm 0 _ hi with ⟨b', e⟩ | ⟨h1, _⟩
    · cases e
    · exact ⟨ω.stb _ _ _ _ (h.amb _ _ _ _ h1).1 (hk.weaken fun b' _ hmk => ⟨fun hm => nmk b' (h.mu b' (.inl hm)).2 hmk, fun hm => nmk b' (h.mu b' (.inr hm)).2 hmk⟩), (h.amb _ _ _ _ h1).2⟩
noncomputable def wpD (P : Program) (nt : Nat) (ops : List Oper) (mk : List Nat) (ks : List (Nat × Nat)) (l : List Pk) : Env → LBs → Facts → (Env → LBs → Facts → Prop) → Prop :=
  List.rec (motive := fun _ => Env → LBs → Facts → (Env → LBs → Facts → Prop) → Prop) (fun env lb Φ K => K env lb Φ)
    (fun p _ ih env lb Φ K => match p with
      | .t n => match nth ops n with
        | some o => gd ops env o.guard (pv P env lb Φ o.op fun v fs => appK fs Φ fun Φ => putE nt env o.dst v fun env => ih env lb Φ K) (putE nt env o.dst .undef fun env => ih env lb Φ K)
        | none => False
      | .m n => match nth ops n with
        | some o => Ob (keysOf lb mk = ks) (gd ops env o.guard (maskK lb mk fun lbm => pv P env lbm Φ o.op fun v fs => appK fs Φ fun Φ => putE nt env o.dst v fun env => ih env lb Φ K) (putE nt env o.dst .undef fun env => ih env lb Φ K))
        | none => False
      | .s n => match nth ops n with
        | some o => gd ops env o.guard (wpO P (some []) o.op o.type env lb Φ fun v lb Φ => putE nt env o.dst v fun env => ih env lb Φ K) (putE nt env o.dst .undef fun env => ih env lb Φ K)
        | none => False
      | .w n => match nth ops n with
        | some o => Ob (keysOf lb mk = ks) (gd ops env o.guard (wpO P (some mk) o.op o.type env lb Φ fun v lb Φ => putE nt env o.dst v fun env => ih env lb Φ K) (putE nt env o.dst .undef fun env => ih env lb Φ K))
        | none => False
      | .l n => match nth ops n with
        | some o => gd ops env o.guard (wpO P none o.op o.type env lb Φ fun v lb Φ => putE nt env o.dst v fun env => ih env lb Φ K) (putE nt env o.dst .undef fun env => ih env lb Φ K)
        | none => False) l
section
variable {P : Program} {ro : Option Nat} {nt : Nat} {ω : Amb} {ds : List Deferred}
theorem ready_nil {l : List Nat} (h : l.isEmpty = true) : l = [] := by simpa using h
theorem Yv.of_any {ops : Array Oper} {S : World → Prop} {o : Oper} {v : Value} {a : Act} (hd : ∀ c, o.op ≠ .defer c) (hw : Region.wanted o (yielded ops a.tmps) = true) (hv : ∀ w, S w → (execOp a.eval o).run P w = .ok (.value v) w) : Yv P ops S o v a := ⟨hd, .inl ⟨hw, hv⟩⟩
theorem all_cmp {ops : Array Oper} {f : Nat → Bool} {n : Nat} (h : ((List.range ops.size).all fun j => !(f j) || cmpB .any ops j n) = true) {j : Nat} (hj : j < ops.size) (hf : f j = true) : cmpB .any ops j n = true := by
  have := List.all_eq_true.1 h j (List.mem_range.2 hj)
  simpa [hf] using this
theorem wpD_ok {lo : List Oper} {mk : List Nat} {ks : List (Nat × Nat)} {ld wd : Nat → Bool} {K : Env → LBs → Facts → Prop} {K' : Act → World → Prop} (hlt : ∀ j, (ld j || wd j) = true → j < lo.toArray.size) (hK : ∀ env lb Φ Mu a w, RA nt env ds a → Rel P lb Φ (ω.mu Mu) w → K env lb Φ → K' a w) :
    ∀ (r : List Pk) (listed : Array Bool) (env : Env) (lb : LBs) (Φ : Facts) (a : Act) (w wS : World) (fuel : Nat) (Mu : Foot), r.length ≤ fuel → okSched lo.toArray ld wd r listed = true → Closed .any lo.toArray listed → RA nt env ds a → Rel P lb Φ (ω.mu Mu) w → Rel P lb Φ (ω.mu Mu) wS → Kept No wS w →
      wpD P nt lo mk ks r env lb Φ K → Any P ro .any lo.toArray ld wd K' fuel (Kept No wS) (Kept (MsOf ks) wS) listed a w := by
  intro r
  induction r with
  | nil =>
    intro listed env lb Φ a w wS fuel Mu _ hok _ hra hr hrS hk h
    have hn := ready_nil hok
    cases fuel with
    | zero => exact ⟨hn, hK _ _ _ Mu _ _ hra hr h⟩
    | succ n => exact ⟨fun _ => hK _ _ _ Mu _ _ hra hr h, by rw [hn]; simp⟩
  | cons n r ih =>
    intro listed env lb Φ a w wS fuel Mu hf hok hcl hra hr hrS hk h
    obtain ⟨fuel, rfl⟩ : ∃ m, fuel = m + 1 := ⟨fuel - 1, by simp at hf; omega⟩
    have hf' : r.length ≤ fuel := by simpa using hf
    have ofNo : ∀ {w w' : World}, Kept No w w' → Kept (MsOf ks) w w' := fun h => h.weaken fun _ _ h => h.elim
    -- an operation that comes up alone
    have alone : ∀ (m : Nat) (o : Oper), lo.toArray[m]? = some o → Region.ready .any lo.toArray listed = [m] → okSched lo.toArray ld wd r (listed.setIfInBounds m true) = true →
        (Ops P ro lo.toArray [o] a w fun a' w' => ∃ env' lb' Φ' Mu', RA nt env' ds a' ∧ Rel P lb' Φ' (ω.mu Mu') w' ∧ wpD P nt lo mk ks r env' lb' Φ' K ∧ (ld m = false → Kept No w w') ∧ (wd m = false → Kept (MsOf ks) w w')) →
        Any P ro .any lo.toArray ld wd K' (fuel + 1) (Kept No wS) (Kept (MsOf ks) wS) listed a w := by
      intro m o ho' hm hok hops
      refine ⟨fun h0 => (by rw [hm] at h0; cases h0), fun j hj => ?_⟩
      have hj0 := hj
      rw [hm] at hj
      simp only [List.mem_singleton] at hj
      subst hj
      unfold opStep
      simp only [ho']
      refine Ops.mono1 ?_ hops
      rintro a' w' ⟨env', lb', Φ', Mu', g1, g2, g3, g4, g5⟩
      refine ⟨Kept No w', Kept (MsOf ks) w', fun hl => ⟨hk.trans (g4 hl), fun w2 h2 => (hk.trans (g4 hl)).trans h2⟩, fun hl => ⟨(ofNo hk).trans (g5 hl), fun w2 h2 => ((ofNo hk).trans (g5 hl)).trans h2⟩, Kept.refl _ _, Kept.refl _ _, ih _ _ _ _ _ _ _ _ Mu' hf' hok (hcl.set hj0) g1 g2 g2 (Kept.refl _ _) g3⟩
    cases n with
    | t n =>
      simp only [okSched, Bool.and_eq_true] at hok
      change (match nth lo n with | some o => _ | none => False) at h
      obtain ⟨⟨hm, hcm⟩, hok⟩ := hok
      simp only [mayTake, Bool.and_eq_true] at hm
      split at h
      · rename_i o ho
        rw [nth_eq] at ho
        have ho' : lo.toArray[n]? = some o := by simpa using ho
        have hcmp : ∀ j, pickB false (wd j) (ld j || wd j) = true → cmpB .any lo.toArray j n = true := fun j hj => all_cmp hcm (hlt j hj) hj
        rcases wanted_ok hra h with ⟨hw, h1⟩ | ⟨hw, h1⟩
        · obtain ⟨v, fs, hq, hy⟩ := pv_ok (d := o.dst) (ty := o.type) (pos := o.pos) (af := o.after) (g := o.guard) hra.ev hr h1
          rw [appK_eq] at hq
          obtain ⟨env', hra', hq⟩ := hra.put hq
          refine any_first false hcmp ho' (noDefer_sel hm.1.1) (noDefer_spec hm.1.1) fuel _ _ listed _ w (Region.free_spec ho' hm.1.2) hcl (by simpa using hm.2) (v := v.den) ?_ hk (ofNo hk) ?_
          · exact Yv.of_any (fun c => noDefer_spec hm.1.1 n o c ho') hw fun w' hw' => (hy w' (hrS.call hw')).1
          · exact ih _ _ _ _ _ _ _ _ _ hf' hok (hcl.set (by simpa using hm.2)) hra' ⟨hr.st, ((hy w hr).2 _ hr.hold).append hr.hold, hr.mu, hr.muM, hr.amb⟩ ⟨hrS.st, ((hy wS hrS).2 _ hrS.hold).append hrS.hold, hrS.mu, hrS.muM, hrS.amb⟩ hk hq
        · obtain ⟨env', hra', hq⟩ := hra.put h1
          refine any_first false hcmp ho' (noDefer_sel hm.1.1) (noDefer_spec hm.1.1) fuel _ _ listed _ w (Region.free_spec ho' hm.1.2) hcl (by simpa using hm.2) (v := Go.undef) ?_ hk (ofNo hk) ?_
          · exact ⟨fun c => noDefer_spec hm.1.1 n o c ho', .inr ⟨hw, rfl⟩⟩
          · exact ih _ _ _ _ _ _ _ _ _ hf' hok (hcl.set (by simpa using hm.2)) hra' hr hrS hk hq
      · exact h.elim
    | m n =>
      simp only [okSched, Bool.and_eq_true] at hok
      change (match nth lo n with | some o => Ob _ _ | none => False) at h
      obtain ⟨⟨hm, hcm⟩, hok⟩ := hok
      simp only [mayTake, Bool.and_eq_true] at hm
      split at h
      · rename_i o ho
        rw [nth_eq] at ho
        have ho' : lo.toArray[n]? = some o := by simpa using ho
        have hcmp : ∀ j, pickB true (wd j) (ld j || wd j) = true → cmpB .any lo.toArray j n = true := fun j hj => all_cmp hcm (hlt j (by simp only [pickB] at hj; simp [hj])) hj
        obtain ⟨hks, h⟩ := h
        rcases wanted_ok hra h with ⟨hw, h1⟩ | ⟨hw, h1⟩
        · obtain ⟨lbm, h1, hmask⟩ := maskK_ok h1
          have mko : ∀ {w' : World}, Kept (MsOf ks) wS w' → Rel P lbm Φ (ω.mu Mu) w' := fun h => hrS.mask (h.weaken fun b _ hb => keys_iff.1 (hks ▸ hb)) hmask
          obtain ⟨v, fs, hq, hy⟩ := pv_ok (d := o.dst) (ty := o.type) (pos := o.pos) (af := o.after) (g := o.guard) hra.ev (mko (ofNo hk)) h1
          rw [appK_eq] at hq
          obtain ⟨env', hra', hq⟩ := hra.put hq
          refine any_first true hcmp ho' (noDefer_sel hm.1.1) (noDefer_spec hm.1.1) fuel _ _ listed _ w (Region.free_spec ho' hm.1.2) hcl (by simpa using hm.2) (v := v.den) ?_ hk (ofNo hk) ?_
          · exact Yv.of_any (fun c => noDefer_spec hm.1.1 n o c ho') hw fun w' hw' => (hy w' (mko hw')).1
          · exact ih _ _ _ _ _ _ _ _ _ hf' hok (hcl.set (by simpa using hm.2)) hra' ⟨hr.st, ((hy w (mko (ofNo hk))).2 _ hr.hold).append hr.hold, hr.mu, hr.muM, hr.amb⟩ ⟨hrS.st, ((hy wS (mko (Kept.refl _ _))).2 _ hrS.hold).append hrS.hold, hrS.mu, hrS.muM, hrS.amb⟩ hk hq
        · obtain ⟨env', hra', hq⟩ := hra.put h1
          refine any_first true hcmp ho' (noDefer_sel hm.1.1) (noDefer_spec hm.1.1) fuel _ _ listed _ w (Region.free_spec ho' hm.1.2) hcl (by simpa using hm.2) (v := Go.undef) ?_ hk (ofNo hk) ?_
          · exact ⟨fun c => noDefer_spec hm.1.1 n o c ho', .inr ⟨hw, rfl⟩⟩
          · exact ih _ _ _ _ _ _ _ _ _ hf' hok (hcl.set (by simpa using hm.2)) hra' hr hrS hk hq
      · exact h.elim
    | s m =>
      simp only [okSched, Bool.and_eq_true] at hok
      change (match nth lo m with | some o => _ | none => False) at h
      obtain ⟨hm, hok⟩ := hok
      have hm : Region.ready .any lo.toArray listed = [m] := by simpa using hm
      split at h
      · rename_i o ho
        rw [nth_eq] at ho
        have ho' : lo.toArray[m]? = some o := by simpa using ho
        refine alone m o ho' hm hok ?_
        rcases wanted_ok hra h with ⟨hw, h1⟩ | ⟨hw, h1⟩
        · refine wpO_ok hra hr hw h1 fun v lb' Φ' w' Mu' hq hr' hk' => ?_
          obtain ⟨env', hra', hq⟩ := hra.put hq
          have hk0 : Kept No w w' := Kept.weaken hk' fun b _ hb => by obtain ⟨i, hi, _⟩ := hb; simp at hi
          exact ⟨_, _, _, Mu', hra', hr', hq, fun _ => hk0, fun _ => ofNo hk0⟩
        · refine o_skip hw ?_
          obtain ⟨env', hra', hq⟩ := hra.put h1
          exact ⟨_, _, _, Mu, hra', hr, hq, fun _ => Kept.refl _ _, fun _ => Kept.refl _ _⟩
      · exact h.elim
    | w m =>
      simp only [okSched, Bool.and_eq_true] at hok
      change (match nth lo m with | some o => Ob _ _ | none => False) at h
      obtain ⟨⟨hm, hld⟩, hok⟩ := hok
      have hm : Region.ready .any lo.toArray listed = [m] := by simpa using hm
      split at h
      · rename_i o ho
        rw [nth_eq] at ho
        have ho' : lo.toArray[m]? = some o := by simpa using ho
        obtain ⟨hks, h⟩ := h
        refine alone m o ho' hm hok ?_
        rcases wanted_ok hra h with ⟨hw, h1⟩ | ⟨hw, h1⟩
        · refine wpO_ok hra hr hw h1 fun v lb' Φ' w' Mu' hq hr' hk' => ?_
          obtain ⟨env', hra', hq⟩ := hra.put hq
          exact ⟨_, _, _, Mu', hra', hr', hq, fun e => (by rw [hld] at e; cases e), fun _ => Kept.weaken hk' fun b _ hb => hks ▸ keys_iff.2 hb⟩
        · refine o_skip hw ?_
          obtain ⟨env', hra', hq⟩ := hra.put h1
          exact ⟨_, _, _, Mu, hra', hr, hq, fun _ => Kept.refl _ _, fun _ => Kept.refl _ _⟩
      · exact h.elim
    | l m =>
      simp only [okSched, Bool.and_eq_true] at hok
      change (match nth lo m with | some o => _ | none => False) at h
      obtain ⟨⟨⟨hm, hld⟩, hwd⟩, hok⟩ := hok
      have hm : Region.ready .any lo.toArray listed = [m] := by simpa using hm
      split at h
      · rename_i o ho
        rw [nth_eq] at ho
        have ho' : lo.toArray[m]? = some o := by simpa using ho
        refine alone m o ho' hm hok ?_
        rcases wanted_ok hra h with ⟨hw, h1⟩ | ⟨hw, h1⟩
        · refine wpO_ok hra hr hw h1 fun v lb' Φ' w' Mu' hq hr' _ => ?_
          obtain ⟨env', hra', hq⟩ := hra.put hq
          exact ⟨_, _, _, Mu', hra', hr', hq, fun e => (by rw [hld] at e; cases e), fun e => (by rw [hwd] at e; cases e)⟩
        · refine o_skip hw ?_
          obtain ⟨env', hra', hq⟩ := hra.put h1
          exact ⟨_, _, _, Mu, hra', hr, hq, fun _ => Kept.refl _ _, fun _ => Kept.refl _ _⟩
      · exact h.elim
theorem Rel.drawn {lb : LBs} {Φ : Facts} {w : World} (h : Rel P lb Φ ω w) : Rel P lb Φ ω { w with drawn := w.drawn + 1 } := h.call ⟨rfl, rfl, rfl, Nat.le_refl _, fun _ _ _ => rfl⟩
theorem isLd_lt {ops : Array Oper} {r : List Pk} (h : (r.all fun p => match p with | .w n => decide (n < ops.size) | .l n => decide (n < ops.size) | _ => true) = true) {j : Nat} (hj : (isLd r j || isWd r j) = true) : j < ops.size := by
  rw [Bool.or_eq_true] at hj
  rcases hj with hj | hj
  · obtain ⟨p, hp, h1⟩ := List.any_eq_true.1 hj
    have h2 := List.all_eq_true.1 h p hp
    cases p <;> simp at h1 h2 <;> (subst h1; exact h2)
  · obtain ⟨p, hp, h1⟩ := List.any_eq_true.1 hj
    have h2 := List.all_eq_true.1 h p hp
    cases p <;> simp at h1 h2 <;> (subst h1; exact h2)
def okAll (ops : Array Oper) (r : List Pk) : Bool :=
  Nat.ble r.length ops.size && (r.all fun p => match p with | .w n => decide (n < ops.size) | .l n => decide (n < ops.size) | _ => true) && okSched ops (isLd r) (isWd r) r (Array.replicate ops.size false)
/-- the whole statement; mk: the blocks that are masked -/
theorem SemC.draw {ops : Array Oper} {env : Env} {lb : LBs} {Φ : Facts} {Q : QT} (id : Nat) (mk : List Nat) (r : List Pk) (hm : P.follows .mixedOrders = true) (hok : okAll ops r = true)
    (h : arrK ops fun l => wpD P nt l mk (keysOf lb mk) r env lb Φ fun env lb Φ => Q .normal env ds lb Φ) : SemC P nt ro (.region id ops true) env ds lb Φ Q := by
  simp only [okAll, Bool.and_eq_true] at hok
  refine ⟨fun ω a w hra hr => ?_⟩
  have h1 := wpD_ok (P := P) (ro := ro) (ω := ω) (ld := isLd r) (wd := isWd r) (lo := ops.toList) (K' := QQ P nt ω Q .normal) (fun j hj => by simpa using isLd_lt hok.1.2 hj) (fun env lb Φ Mu a w k1 k2 k3 => ⟨env, ds, lb, Φ, Mu, k1, k2, k3⟩) r (Array.replicate ops.size false) env lb Φ a { w with drawn := w.drawn + 1 } { w with drawn := w.drawn + 1 } ops.size ω.Mu
    (Nat.le_of_ble_eq_true hok.1.1) (by simpa using hok.2) (by simpa using Closed.start .any ops ops.size) hra hr.drawn hr.drawn (Kept.refl _ _) h
  exact wpIn_region_any hm (any_sound (K := QQ P nt ω Q .normal) (fun _ _ h => h) _ _ _ _ _ _ (by simpa using h1))
end
end Go.Proofs.YtikjigkkhdkibaaGreatDoor.W
