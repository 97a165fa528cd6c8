/- The engine's ground: the wide fence, the symbolic heap, what is kept from world to world. Over any program. -/
import Derived.RangeFuncLeaves
import Derived.RangeFuncRecord
import Derived.RangeFuncNested
import Derived.WalkKit
import Derived.OwnWalkIn
import Derived.TacticsInMore
namespace Go.Proofs.Ytpdpajafaifcjaa.Eng
open Go.RowKit

/-- the wide fence, within a round or not -/
def FW (ro : Option Nat) : Fence := { fn := fun _ => True, depth := none, alive := false, round := ro }
theorem FW_none : FW none = Fence.wide := rfl
theorem FW_in (ro : Option Nat) (l : Nat) : (FW ro).inRound l = FW (some l) := rfl
@[simp] theorem FW_fn (ro : Option Nat) (f : FuncId) : (FW ro).fn f = True := rfl
@[simp] theorem FW_depth (ro : Option Nat) : (FW ro).depth = none := rfl
@[simp] theorem FW_round (ro : Option Nat) : (FW ro).round = ro := rfl
theorem FW_room (ro : Option Nat) (n : Nat) : (FW ro).room n := fun d h => by cases h

/-- outside M all is as it was -/
structure Kept (M : Nat → Prop) (w w' : World) : Prop where
  os : w'.os = w.os
  tape : w'.tape = w.tape
  output : w'.output = w.output
  size : w.heap.size ≤ w'.heap.size
  block : ∀ k, k < w.heap.size → ¬ M k → w'.heap[k]? = w.heap[k]?
/-- nothing -/
def No : Nat → Prop := fun _ => False
theorem Kept.refl (M : Nat → Prop) (w : World) : Kept M w w := ⟨rfl, rfl, rfl, Nat.le_refl _, fun _ _ _ => rfl⟩
theorem Kept.trans {M : Nat → Prop} {a b c : World} (h : Kept M a b) (k : Kept M b c) : Kept M a c :=
  ⟨k.os.trans h.os, k.tape.trans h.tape, k.output.trans h.output, Nat.le_trans h.size k.size, fun i hi hm => (k.block i (Nat.lt_of_lt_of_le hi h.size) hm).trans (h.block i hi hm)⟩
theorem Kept.weaken {M M' : Nat → Prop} {a b : World} (h : Kept M a b) (hm : ∀ k, k < a.heap.size → M k → M' k) : Kept M' a b :=
  ⟨h.os, h.tape, h.output, h.size, fun i hi hn => h.block i hi fun h => hn (hm i hi h)⟩
theorem Kept.below {w w' : World} (h : Kept No w w') : Below w.heap.size w w' := ⟨h.os, h.tape, h.output, h.size, fun k hk => h.block k hk id⟩
theorem Kept.of_below {w w' : World} (h : Below w.heap.size w w') : Kept No w w' := ⟨h.os, h.tape, h.output, h.size, fun k hk _ => h.block k hk⟩
theorem Kept.alloc (M : Nat → Prop) (w : World) (o : Obj) : Kept M w (w.alloc o) := ⟨rfl, rfl, rfl, by simp, fun k hk _ => Below.heap_alloc w o k hk⟩

/-- a call that returns; outside M nothing that was there has turned -/
def Ok (P : Program) (M : Nat → Prop) (f : FuncId) (args : Array Value) (w : World) (R : Value → World → Prop) : Prop :=
  Calls P f args w fun e w' => ∃ v, e = .returned v ∧ Kept M w w' ∧ R v w'

theorem Ok.mono {P : Program} {M : Nat → Prop} {f : FuncId} {args : Array Value} {w : World} {R R' : Value → World → Prop} (h : Ok P M f args w R) (hr : ∀ v w', R v w' → R' v w') : Ok P M f args w R' :=
  Calls.mono h fun _ _ ⟨v, he, hb, r⟩ => ⟨v, he, hb, hr _ _ r⟩

theorem callsIn_FW {ro : Option Nat} {n : Nat} {P : Program} {f : FuncId} {args : Array Value} {w : World} {R : Ending → World → Prop} (h : Calls P f args w R) : CallsIn (FW ro) n P f args w R := by
  have h1 : CallsIn (FW none) n P f args w R := callsIn_wide.2 h
  cases ro with
  | none => exact h1
  | some l => exact h1.inRound l

/-! ### operations -/
/-- a list of operations, in this order; behind it K -/
def Ops (P : Program) (ro : Option Nat) (ops : Array Oper) (l : List Oper) (a : Act) (w : World) (K : Act → World → Prop) : Prop :=
  wpListIn (FW ro) 0 P ops (fun e a w => match e with | .normal => K a w | _ => False) l a w

theorem c_region {P : Program} {ro : Option Nat} {id : Nat} {l : List Oper} {Q : Exit → Act → World → Prop} {a : Act} {w : World}
    (h : ∀ K : Act → World → Prop, (∀ a w, Q .normal a w → K a w) → Ops P ro l.toArray l a w K) : (Code.region id l.toArray false).wpIn (FW ro) 0 P Q a w :=
  wpIn_mono (wpIn_region_lit (h (Q .normal) fun _ _ q => q)) (fun e a w q => by cases e <;> first | exact q | exact q.elim)

theorem c_seq {P : Program} {ro : Option Nat} {x y : Code} {Q : Exit → Act → World → Prop} {a : Act} {w : World}
    (h : ∀ K : Act → World → Prop, (∀ a w, y.wpIn (FW ro) 0 P Q a w → K a w) → x.wpIn (FW ro) 0 P (Exit.then K Q) a w) :
    (Code.seq x y).wpIn (FW ro) 0 P Q a w := wpIn_seq_k h

section
variable {P : Program} {ro : Option Nat} {ops : Array Oper} {rest : List Oper} {a : Act} {w : World} {K : Act → World → Prop}

theorem o_nil (h : K a w) : Ops P ro ops [] a w K := h

theorem o_value {o : Oper} {v : Value} {w' : World} (hw : Region.wanted o (yielded ops a.tmps) = true) (hs : o.semAt ro a.eval = execOp a.eval o) (hr : (execOp a.eval o).run P w = .ok (.value v) w')
    (h : Ops P ro ops rest (a.put o.dst v) w' K) : Ops P ro ops (o :: rest) a w K := by
  unfold Ops wpListIn
  rw [if_pos hw]
  refine ⟨fun _ _ => trivial, ?_⟩
  rw [FW_round, hs, hr]
  exact h

theorem o_unit {o : Oper} {w' : World} (hw : Region.wanted o (yielded ops a.tmps) = true) (hs : o.semAt ro a.eval = execOp a.eval o) (hr : (execOp a.eval o).run P w = .ok .skip w')
    (h : Ops P ro ops rest (a.put o.dst undef) w' K) : Ops P ro ops (o :: rest) a w K := by
  unfold Ops wpListIn
  rw [if_pos hw]
  refine ⟨fun _ _ => trivial, ?_⟩
  rw [FW_round, hs, hr]
  exact h

theorem o_skip {o : Oper} (hw : Region.wanted o (yielded ops a.tmps) = false) (h : Ops P ro ops rest (a.put o.dst undef) w K) : Ops P ro ops (o :: rest) a w K := by
  unfold Ops wpListIn
  rw [if_neg (by rw [hw]; simp)]
  exact ⟨fun _ _ => trivial, h⟩

theorem o_call {o : Oper} {M : Nat → Prop} {f : FuncId} {args args' : Array Value} {R : Value → World → Prop} (hw : Region.wanted o (yielded ops a.tmps) = true) (hs : o.semAt ro a.eval = execOp a.eval o)
    (hr : (execOp a.eval o).run P w = .ok (.enter f args) w) (ha : args = args') (hc : Ok P M f args' w R)
    (h : ∀ v w', Kept M w w' → R v w' → Ops P ro ops rest (a.put o.dst v) w' K) : Ops P ro ops (o :: rest) a w K := by
  unfold Ops wpListIn
  rw [if_pos hw]
  refine ⟨fun _ _ => trivial, ?_⟩
  rw [FW_round, hs, hr]
  refine ⟨fun h => (by cases h), callsIn_FW (Calls.mono (ha ▸ hc) ?_)⟩
  rintro e w' ⟨v, rfl, hb, r⟩
  exact h v w' hb r
end

/-! ### the symbolic heap -/
abbrev LB := List (Nat × Obj)
/-- the call's own blocks, in the order in which they were laid (those of M first), and what they hold; nothing that was there at its beginning has turned, but in M -/
structure St (M : Nat → Prop) (w0 : World) (l : LB) (w : World) : Prop where
  kept : Kept M w0 w
  inj : ∀ (i j : Nat) (p q : Nat × Obj), l[i]? = some p → l[j]? = some q → p.1 = q.1 → i = j
  own : ∀ (i : Nat) (p : Nat × Obj), l[i]? = some p → (M p.1 ∨ w0.heap.size ≤ p.1) ∧ w.heap[p.1]? = some p.2
/-- not one of the call's own -/
def Off (l : LB) (b : Nat) : Prop := ∀ (i : Nat) (p : Nat × Obj), l[i]? = some p → p.1 ≠ b
/-- what is kept: whatever was there and was not the call's own, is as it was, and is not the call's own -/
structure Tr (l : LB) (w : World) (l' : LB) (w' : World) : Prop where
  size : w.heap.size ≤ w'.heap.size
  keep : ∀ b, b < w.heap.size → Off l b → Off l' b ∧ w'.heap[b]? = w.heap[b]?
variable {M : Nat → Prop}
theorem St.start (w : World) : St M w [] w := ⟨Kept.refl _ _, by simp, by simp⟩
theorem St.lt {w0 w : World} {l : LB} (h : St M w0 l w) {i : Nat} {p : Nat × Obj} (hp : l[i]? = some p) : p.1 < w.heap.size :=
  (Array.getElem?_eq_some_iff.1 (h.own i p hp).2).1
theorem St.size {w0 w : World} {l : LB} (h : St M w0 l w) : w0.heap.size ≤ w.heap.size := h.kept.size
theorem St.offNew {w0 w : World} {l : LB} (h : St M w0 l w) {b : Nat} (hb : w.heap.size ≤ b) : Off l b := fun i p hp e => by
  have := h.lt hp
  omega
theorem get_snoc {l : LB} {x p : Nat × Obj} {i : Nat} (h : (l ++ [x])[i]? = some p) : l[i]? = some p ∨ (i = l.length ∧ p = x) := by
  rw [List.getElem?_append] at h
  split at h
  · exact .inl h
  · rename_i hi
    right
    have : i - l.length = 0 := by
      rcases Nat.eq_zero_or_pos (i - l.length) with h0 | h0
      · exact h0
      · rw [List.getElem?_eq_none (by simp; omega)] at h; cases h
    rw [this] at h
    simp at h
    exact ⟨by omega, h.symm⟩
theorem St.alloc {w0 w : World} {l : LB} (h : St M w0 l w) (o : Obj) : St M w0 (l ++ [(w.heap.size, o)]) (w.alloc o) := by
  refine ⟨h.kept.trans (Kept.alloc M w o), ?_, ?_⟩
  · intro i j p q hp hq e
    rcases get_snoc hp with hp | ⟨rfl, rfl⟩ <;> rcases get_snoc hq with hq | ⟨rfl, rfl⟩
    · exact h.inj i j p q hp hq e
    · have := h.lt hp; simp at e; omega
    · have := h.lt hq; simp at e; omega
    · rfl
  · intro i p hp
    rcases get_snoc hp with hp | ⟨rfl, rfl⟩
    · exact ⟨(h.own i p hp).1, (Below.heap_alloc w o p.1 (h.lt hp)).trans (h.own i p hp).2⟩
    · exact ⟨.inr h.size, World.alloc_heap_new w o⟩
theorem Tr.alloc (w : World) (l : LB) (o : Obj) : Tr l w (l ++ [(w.heap.size, o)]) (w.alloc o) := by
  refine ⟨by simp, fun b hb ho => ⟨fun i p hp => ?_, Below.heap_alloc w o b hb⟩⟩
  rcases get_snoc hp with hp | ⟨rfl, rfl⟩
  · exact ho i p hp
  · simp; omega
theorem St.call {w0 w w' : World} {l : LB} (h : St M w0 l w) (hb : Kept No w w') : St M w0 l w' :=
  ⟨h.kept.trans (hb.weaken fun _ _ h => h.elim), h.inj, fun i p hp => ⟨(h.own i p hp).1, (hb.block _ (h.lt hp) id).trans (h.own i p hp).2⟩⟩
theorem Tr.call {w w' : World} (l : LB) (hb : Kept No w w') : Tr l w l w' := ⟨hb.size, fun b h ho => ⟨ho, hb.block b h id⟩⟩
theorem Tr.refl (l : LB) (w : World) : Tr l w l w := ⟨Nat.le_refl _, fun _ _ h => ⟨h, rfl⟩⟩
theorem Tr.trans {l l' l'' : LB} {w w' w'' : World} (h : Tr l w l' w') (k : Tr l' w' l'' w'') : Tr l w l'' w'' :=
  ⟨Nat.le_trans h.size k.size, fun b hb ho => let ⟨h1, h2⟩ := h.keep b hb ho; let ⟨k1, k2⟩ := k.keep b (Nat.lt_of_lt_of_le hb h.size) h1; ⟨k1, k2.trans h2⟩⟩

/-- the block b turned into another one -/
def turned (w : World) (b : Nat) (o : Obj) : World := { w with heap := w.heap.modify b fun _ => o }
theorem get_set {l : LB} {x p y : Nat × Obj} {i j : Nat} (hj : l[j]? = some y) (h : (l.set j x)[i]? = some p) : (i = j ∧ p = x) ∨ (i ≠ j ∧ l[i]? = some p) := by
  by_cases e : j = i
  · subst e
    rw [List.getElem?_set_self (List.getElem?_eq_some_iff.1 hj).1] at h
    exact .inl ⟨rfl, (Option.some.inj h).symm⟩
  · rw [List.getElem?_set_ne e] at h
    exact .inr ⟨fun h => e h.symm, h⟩
/-- one of the call's own blocks has turned, by whatever means, and nothing else that was there -/
theorem St.turnBy {w0 w w' : World} {l : LB} (h : St M w0 l w) {j b : Nat} {o : Obj} (o' : Obj) (hj : l[j]? = some (b, o)) (hk : Kept (· = b) w w') (hb' : w'.heap[b]? = some o') : St M w0 (l.set j (b, o')) w' := by
  have hb := (h.own _ _ hj).1
  have hlt := h.lt hj
  refine ⟨?_, ?_, ?_⟩
  · refine ⟨hk.os.trans h.kept.os, hk.tape.trans h.kept.tape, hk.output.trans h.kept.output, Nat.le_trans h.kept.size hk.size, fun k hkl hm => ?_⟩
    rw [← h.kept.block k hkl hm]
    refine hk.block k (Nat.lt_of_lt_of_le hkl h.size) ?_
    rintro rfl
    rcases hb with hb | hb
    · exact hm hb
    · simp at hb; omega
  · intro i i' p q hp hq e
    rcases get_set hj hp with ⟨e1, e2⟩ | ⟨hi, hp1⟩ <;> rcases get_set hj hq with ⟨e3, e4⟩ | ⟨hi', hq1⟩
    · rw [e1, e3]
    · rw [e1]; exact h.inj _ _ _ _ hj hq1 (by rw [← e, e2])
    · rw [e3]; exact h.inj _ _ _ _ hp1 hj (by rw [e, e4])
    · exact h.inj _ _ _ _ hp1 hq1 e
  · intro i p hp
    rcases get_set hj hp with ⟨rfl, rfl⟩ | ⟨hi, hp⟩
    · exact ⟨hb, hb'⟩
    · refine ⟨(h.own _ _ hp).1, ?_⟩
      rw [hk.block _ (h.lt hp) (fun e => hi (h.inj _ _ _ _ hp hj e))]
      exact (h.own _ _ hp).2
theorem Tr.turnBy {w w' : World} {l : LB} {j b : Nat} {o : Obj} (o' : Obj) (hj : l[j]? = some (b, o)) (hk : Kept (· = b) w w') : Tr l w (l.set j (b, o')) w' := by
  refine ⟨hk.size, fun k hlt ho => ⟨fun i p hp => ?_, hk.block k hlt (fun e => ho _ _ hj e.symm)⟩⟩
  rcases get_set hj hp with ⟨_, e2⟩ | ⟨_, hp⟩
  · rw [e2]; exact fun e => ho _ _ hj e
  · exact ho _ _ hp
theorem kept_turned (w : World) (b : Nat) (o : Obj) : Kept (· = b) w (turned w b o) := by
  refine ⟨rfl, rfl, rfl, by simp [turned], fun k _ hk => ?_⟩
  simp only [turned, Array.getElem?_modify]
  rw [if_neg (fun e => hk e.symm)]
theorem turned_block {w : World} {b : Nat} {o : Obj} (o' : Obj) (h : w.heap[b]? = some o) : (turned w b o').heap[b]? = some o' := by
  simp [turned, Array.getElem?_modify, h]
theorem setCell_turned {w : World} {b : Nat} {cs : Array Value} {t : TypeId} {fz : Nat × Nat} (h : w.heap[b]? = some (.cells cs t fz)) (o : Nat) (v : Value) :
    w.setCell ⟨b, o, none⟩ v = turned w b (.cells (cs.setIfInBounds o v) t fz) := by
  unfold World.setCell turned
  congr 1
  refine Array.ext_getElem? fun i => ?_
  rw [Array.getElem?_modify, Array.getElem?_modify]
  split
  · rename_i e; subst e; rw [h]; rfl
  · rfl
theorem cell_of {w : World} {b : Nat} {cs : Array Value} {t : TypeId} {fz : Nat × Nat} (h : w.heap[b]? = some (.cells cs t fz)) (o : Nat) : w.cell? ⟨b, o, none⟩ = cs[o]? := by
  unfold World.cell?
  rw [h]
  rfl
theorem frozen_of {w : World} {b : Nat} {cs : Array Value} {t : TypeId} (h : w.heap[b]? = some (.cells cs t (0, 0))) (o : Nat) : w.frozen? ⟨b, o, none⟩ = false := by
  unfold World.frozen?
  rw [h]
  simp
end Go.Proofs.Ytpdpajafaifcjaa.Eng
