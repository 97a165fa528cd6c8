/- What is known of memory that nobody turns: slices, as lists of cells. Over any program. -/
import Derived.Test.YtpdpajafaifcjaaEngC
namespace Go.Proofs.Ytpdpajafaifcjaa.Eng
open Go.RowKit

/-- from one world to another, what A lets by stays, and A' lets it by -/
def KP (A : Nat → Prop) (w : World) (A' : Nat → Prop) (w' : World) : Prop := ∀ b, b < w.heap.size → A b → A' b ∧ w'.heap[b]? = w.heap[b]?
theorem KP.refl (A : Nat → Prop) (w : World) : KP A w A w := fun _ _ h => ⟨h, rfl⟩
theorem KP.trans {A A' A'' : Nat → Prop} {w w' w'' : World} (h : KP A w A' w') (k : KP A' w' A'' w'') : KP A w A'' w'' := fun b hb ha => by
  obtain ⟨h1, h2⟩ := h b hb ha
  have hlt : b < w'.heap.size := by
    rcases Nat.lt_or_ge b w'.heap.size with h3 | h3
    · exact h3
    · rw [Array.getElem?_eq_none h3] at h2
      rw [Array.getElem?_eq_getElem hb] at h2
      cases h2
  obtain ⟨k1, k2⟩ := k b hlt h1
  exact ⟨k1, k2.trans h2⟩
/-- in a call that began in w0, on blocks of A: what it may read -/
def In (A : Nat → Prop) (w0 : World) (l : LB) : Nat → Prop := fun b => Off l b ∧ (A b ∨ w0.heap.size ≤ b)
/-- A, and what is new since w -/
def Fr' (A : Nat → Prop) (w : World) : Nat → Prop := fun b => A b ∨ w.heap.size ≤ b
variable {A A' : Nat → Prop} {M : Nat → Prop} {w w' w0 : World} {l l' : LB}
theorem KP.start (A : Nat → Prop) (w : World) : KP A w (In A w []) w := fun _ _ h => ⟨⟨fun _ _ h => by simp at h, .inl h⟩, rfl⟩
theorem KP.tr (h : Tr l w l' w') : KP (In A w0 l) w (In A w0 l') w' := fun b hb ⟨h1, h2⟩ =>
  let ⟨k1, k2⟩ := h.keep b hb h1; ⟨⟨k1, h2⟩, k2⟩
/-- what a callee hands back, in the caller's eyes; w: the world in which it was called -/
theorem KP.back (hs : St M w0 l w) : KP (Fr' (In A w0 l) w) w' (In A w0 l) w' := fun b _ h => by
  rcases h with h | h
  · exact ⟨h, rfl⟩
  · exact ⟨⟨hs.offNew h, .inr (Nat.le_trans hs.size h)⟩, rfl⟩
theorem KP.out : KP (In A w0 l) w (Fr' A w0) w := fun _ _ h => ⟨h.2, rfl⟩
theorem KP.call (h : Kept No w w') : KP A w A w' := fun b hb ha => ⟨ha, h.block b hb id⟩

/-- a slice of n elements, k cells each, that holds these cells -/
structure Sl (A : Nat → Prop) (w : World) (k : Nat) (p : Option Addr) (n c : Nat) (C : List Value) : Prop where
  len : C.length = n * k
  cap : n ≤ c
  small : c ≤ 281474976710656
  isNil : p = none → c = 0
  at_ : n = 0 ∨ ∃ (b off : Nat) (cs : Array Value) (t : TypeId) (fz : Nat × Nat), p = some ⟨b, off, none⟩ ∧ A b ∧ w.heap[b]? = some (.cells cs t fz) ∧ off + n * k ≤ cs.size ∧ (cs.toList.drop off).take (n * k) = C
theorem Sl.nil (A : Nat → Prop) (w : World) (k : Nat) : Sl A w k none 0 0 [] := ⟨by simp, Nat.le_refl _, by omega, fun _ => rfl, .inl rfl⟩
theorem lt_of_some {w : World} {b : Nat} {o : Obj} (h : w.heap[b]? = some o) : b < w.heap.size := (Array.getElem?_eq_some_iff.1 h).1
theorem Sl.kp {k n c : Nat} {p : Option Addr} {C : List Value} (h : Sl A w k p n c C) (t : KP A w A' w') : Sl A' w' k p n c C := by
  refine ⟨h.len, h.cap, h.small, h.isNil, ?_⟩
  rcases h.at_ with h0 | ⟨b, off, cs, ty, fz, h1, h2, h3, h4, h5⟩
  · exact .inl h0
  · obtain ⟨t1, t2⟩ := t b (lt_of_some h3) h2
    exact .inr ⟨b, off, cs, ty, fz, h1, t1, t2.trans h3, h4, h5⟩

/-- of what the call has made itself -/
theorem Sl.own (hs : St M w0 l w) {j b : Nat} {cs : Array Value} {t : TypeId} {fz : Nat × Nat} (hj : l[j]? = some (b, .cells cs t fz)) (hA : ∀ b, w0.heap.size ≤ b → A b) (hM : ¬ M b) {k n c : Nat} {C : List Value}
    (hc : n ≤ c) (hsm : c ≤ 281474976710656) (hn : n * k ≤ cs.size) (hC : cs.toList.take (n * k) = C) : Sl A w k (some ⟨b, 0, none⟩) n c C := by
  obtain ⟨h1, h2⟩ := hs.own _ _ hj
  refine ⟨?_, hc, hsm, fun h => (by cases h), .inr ⟨b, 0, cs, t, fz, rfl, hA b (h1.resolve_left hM), h2, by omega, by simpa using hC⟩⟩
  rw [← hC]; simp; omega

section
variable {P : Program} {ro : Option Nat} {ops : Array Oper} {rest : List Oper} {lv : List Value} {ds : List Deferred} {K : Act → World → Prop}
variable {d : Option Tmp} {ty : TypeId} {pos : String} {af : Array Edge} {g : Option (Nat × Bool)}
/-- the address of an element, and what lies there -/
theorem Sl.cell {k n c : Nat} {p : Option Addr} {C : List Value} (h : Sl A w k p n c C) {i j : Nat} (hi : i < n) (hj : j < k) : ∃ b off, p = some ⟨b, off, none⟩ ∧ w.cell? ⟨b, off + i * k + j, none⟩ = C[i * k + j]? ∧ A b := by
  rcases h.at_ with h0 | ⟨b, off, cs, t, fz, h1, h2, h3, h4, h5⟩
  · omega
  · refine ⟨b, off, h1, ?_, h2⟩
    have hb : i * k + j < n * k := by
      calc i * k + j < i * k + k := by omega
        _ = (i + 1) * k := by rw [Nat.succ_mul]
        _ ≤ n * k := Nat.mul_le_mul_right _ hi
    rw [cell_of h3, ← h5, List.getElem?_take, if_pos hb, List.getElem?_drop, ← Array.getElem?_toList, Nat.add_assoc]

/-- 's[i]' of numbers and the like: the address, then the load -/
theorem x_at {x y : Operand} {T e : TypeId} {b off n c k : Nat} {kd : IntKind} {i : Nat} (hu : ∀ w, (underlying T).run P w = .ok (.slice e) w) (hk : ∀ w, (sizeOf e).run P w = .ok k w)
    (hx : ev lv x = .slice (some ⟨b, off, none⟩) n c) (hy : ev lv y = .int kd i) (hi : i < n) :
    (execOp (ev lv) ⟨d, .indexAddr T x y, ty, pos, af, g⟩).run P w = .ok (.value (.pointer (some ⟨b, off + i * k, none⟩))) w := (by
    have h1 : (0 : Int) ≤ i := by omega
    have h2 : (i : Int) < n := by omega
    simp only [execOp, Instr.indexAt, hx, hy, asIntOf, Sem.run_bind, Sem.run_pure, Result.andThen, hu]
    simp [h1, h2, hk, addr_add, Result.andThen])
/-- a load of one cell -/
theorem x_loadC {x : Operand} {T : TypeId} {b off : Nat} {v : Value} (hc : w.cell? ⟨b, off, none⟩ = some v) (hx : ev lv x = .pointer (some ⟨b, off, none⟩)) (hT : ∀ w, (isAgg T).run P w = .ok false w) :
    (execOp (ev lv) ⟨d, .load T x, ty, pos, af, g⟩).run P w = .ok (.value v) w := (by simp [execOp, hx, Instr.loadAt, Instr.sureAddr, loadVar, hT, hc])
end
end Go.Proofs.Ytpdpajafaifcjaa.Eng
