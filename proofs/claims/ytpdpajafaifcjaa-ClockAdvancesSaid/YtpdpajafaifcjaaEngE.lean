/- Small lemmas for the engine's walks. -/
import Derived.Test.YtpdpajafaifcjaaEngI
import Derived.IntWalk
namespace Go.Proofs.Ytpdpajafaifcjaa.Eng
open Go.RowKit
theorem a_add_i64 {m n : Int} (h : -9223372036854775808 ≤ m + n ∧ m + n ≤ 9223372036854775807) : ariI .add .i64 m n = some (m + n) := congrArg some (IntWalk.i64_in _ h)
theorem a_sub_i64 {m n : Int} (h : -9223372036854775808 ≤ m - n ∧ m - n ≤ 9223372036854775807) : ariI .sub .i64 m n = some (m - n) := congrArg some (IntWalk.i64_in _ h)
theorem a_mul_i64 {m n : Int} (h : -9223372036854775808 ≤ m * n ∧ m * n ≤ 9223372036854775807) : ariI .mul .i64 m n = some (m * n) := congrArg some (IntWalk.i64_in _ h)
theorem a_add_u64 {m n : Int} (h : 0 ≤ m + n ∧ m + n ≤ 18446744073709551615) : ariI .add .u64 m n = some (m + n) := congrArg some (IntWalk.u64_in _ h)
theorem a_sub_u64 {m n : Int} (h : 0 ≤ m - n ∧ m - n ≤ 18446744073709551615) : ariI .sub .u64 m n = some (m - n) := congrArg some (IntWalk.u64_in _ h)
theorem a_mul_u64 {m n : Int} (h : 0 ≤ m * n ∧ m * n ≤ 18446744073709551615) : ariI .mul .u64 m n = some (m * n) := congrArg some (IntWalk.u64_in _ h)
theorem a_add_i32 {m n : Int} (h : -2147483648 ≤ m + n ∧ m + n ≤ 2147483647) : ariI .add .i32 m n = some (m + n) := congrArg some (IntWalk.i32_in _ h)
theorem a_sub_i32 {m n : Int} (h : -2147483648 ≤ m - n ∧ m - n ≤ 2147483647) : ariI .sub .i32 m n = some (m - n) := congrArg some (IntWalk.i32_in _ h)
theorem a_mul_i32 {m n : Int} (h : -2147483648 ≤ m * n ∧ m * n ≤ 2147483647) : ariI .mul .i32 m n = some (m * n) := congrArg some (IntWalk.i32_in _ h)
theorem a_add_u8 {m n : Int} (h : 0 ≤ m + n ∧ m + n ≤ 255) : ariI .add .u8 m n = some (m + n) := congrArg some (IntWalk.u8_in _ h)
theorem a_sub_u8 {m n : Int} (h : 0 ≤ m - n ∧ m - n ≤ 255) : ariI .sub .u8 m n = some (m - n) := congrArg some (IntWalk.u8_in _ h)
theorem a_mul_u8 {m n : Int} (h : 0 ≤ m * n ∧ m * n ≤ 255) : ariI .mul .u8 m n = some (m * n) := congrArg some (IntWalk.u8_in _ h)
theorem a_quo_i64 {m n : Int} (h : 0 ≤ m ∧ m ≤ 9223372036854775807 ∧ 1 ≤ n) : ariI .quo .i64 m n = some (m / n) := by
  unfold ariI; rw [if_neg (by omega)]; exact congrArg some (IntWalk.i64_quo _ _ h)
theorem a_rem_i64 {m n : Int} (h : 0 ≤ m ∧ 1 ≤ n) : ariI .rem .i64 m n = some (m % n) := by
  show (if n = 0 then none else some (m.tmod n)) = _; rw [if_neg (by omega)]; exact congrArg some (IntWalk.rem_in m n h.1)
theorem a_quo_u64 {m n : Int} (h : 0 ≤ m ∧ m ≤ 18446744073709551615 ∧ 1 ≤ n) : ariI .quo .u64 m n = some (m / n) := by
  unfold ariI; rw [if_neg (by omega)]; exact congrArg some (IntWalk.u64_quo _ _ h)
theorem a_rem_u64 {m n : Int} (h : 0 ≤ m ∧ 1 ≤ n) : ariI .rem .u64 m n = some (m % n) := by
  show (if n = 0 then none else some (m.tmod n)) = _; rw [if_neg (by omega)]; exact congrArg some (IntWalk.rem_in m n h.1)
theorem a_quo_i32 {m n : Int} (h : 0 ≤ m ∧ m ≤ 2147483647 ∧ 1 ≤ n) : ariI .quo .i32 m n = some (m / n) := by
  unfold ariI; rw [if_neg (by omega)]; exact congrArg some (IntWalk.i32_quo _ _ h)
theorem a_rem_i32 {m n : Int} (h : 0 ≤ m ∧ 1 ≤ n) : ariI .rem .i32 m n = some (m % n) := by
  show (if n = 0 then none else some (m.tmod n)) = _; rw [if_neg (by omega)]; exact congrArg some (IntWalk.rem_in m n h.1)
theorem a_quo_u8 {m n : Int} (h : 0 ≤ m ∧ m ≤ 255 ∧ 1 ≤ n) : ariI .quo .u8 m n = some (m / n) := by
  unfold ariI; rw [if_neg (by omega)]; exact congrArg some (IntWalk.u8_quo _ _ h)
theorem a_rem_u8 {m n : Int} (h : 0 ≤ m ∧ 1 ≤ n) : ariI .rem .u8 m n = some (m % n) := by
  show (if n = 0 then none else some (m.tmod n)) = _; rw [if_neg (by omega)]; exact congrArg some (IntWalk.rem_in m n h.1)
theorem min_if (m n : Int) : (if n < m then n else m) = min m n := by
  rw [Int.min_def]; split <;> split <;> omega
theorem max_if (m n : Int) : (if n > m then n else m) = max m n := by
  rw [Int.max_def]; split <;> split <;> omega

section
variable {P : Program} {w : World} {l : List Value}
/-- the results of a function, one by one -/
def RS (P : Program) (w : World) (l : List Value) : List ResultVar → List Value → Prop
  | [], [] => True
  | .tmp t :: rs, v :: vs => l.getD t undef = v ∧ RS P w l rs vs
  | .cell a t :: rs, v :: vs => (∃ p, l.getD a undef = .pointer (some p) ∧ (loadVar t p).run P w = .ok v w) ∧ RS P w l rs vs
  | _, _ => False
def resV : List Value → Value
  | [v] => v
  | vs => .tuple vs.toArray
def resF (tmps : Array Value) (r : ResultVar) : Sem Value :=
  match r with
  | .tmp t => pure (tmps.getD t undef)
  | .cell a t => (asAddr (tmps.getD a undef)).bind (loadVar t)
theorem run_resF {r : ResultVar} {v : Value} (h : match r with | .tmp t => l.getD t undef = v | .cell a t => ∃ p, l.getD a undef = .pointer (some p) ∧ (loadVar t p).run P w = .ok v w) : (resF l.toArray r).run P w = .ok v w := by
  cases r with
  | tmp t => simp only at h; simp [resF, ← h]
  | cell a t =>
    obtain ⟨p, h1, h3⟩ := h
    have e : l.toArray.getD a undef = .pointer (some p) := by simpa using h1
    have e2 : (resF l.toArray (.cell a t)) = (asAddr (l.toArray.getD a undef) >>= loadVar t) := rfl
    rw [e2, e, Sem.run_bind]
    simp [asAddr, h3, Result.andThen]
theorem run_resFs : ∀ (rs : List ResultVar) (vs : List Value), RS P w l rs vs → (rs.mapM (resF l.toArray)).run P w = .ok vs w := by
  intro rs
  induction rs with
  | nil => intro vs h; cases vs with
    | nil => simp
    | cons v vs => exact h.elim
  | cons r rs ih =>
    intro vs h
    cases vs with
    | nil => cases r <;> exact h.elim
    | cons v vs =>
      have h1 : (resF l.toArray r).run P w = .ok v w := run_resF (by cases r <;> exact h.1)
      have h2 := ih vs (by cases r <;> exact h.2)
      rw [List.mapM_cons, Sem.run_bind, h1]
      simp only [Result.andThen]
      rw [Sem.run_bind, h2]
      simp [Result.andThen]
theorem results_by {fn : Func} {rs : List ResultVar} {vs : List Value} (h : fn.results = rs.toArray) (hv : RS P w l rs vs) : (results fn l.toArray).run P w = .ok (resV vs) w := by
  have e : results fn l.toArray = (do let vs ← fn.results.mapM (resF l.toArray); pure (if h : vs.size = 1 then vs[0] else .tuple vs)) := rfl
  rw [e, h, List.mapM_toArray, Sem.run_bind]
  have h2 : (List.toArray <$> rs.mapM (resF l.toArray)).run P w = .ok vs.toArray w := by
    rw [map_eq_pure_bind, Sem.run_bind, run_resFs rs vs hv]
    simp [Result.andThen]
  rw [h2]
  simp only [Result.andThen, Sem.run_pure]
  match vs with
  | [] => rfl
  | [v] => rfl
  | a :: b :: vs => simp [resV]
theorem rs_nil : RS P w l [] [] := trivial
theorem rs_tmp {t : Tmp} {rs : List ResultVar} {v : Value} {vs : List Value} (h : l.getD t undef = v) (hr : RS P w l rs vs) : RS P w l (.tmp t :: rs) (v :: vs) := ⟨h, hr⟩
theorem rs_cell {M : Nat → Prop} {w0 : World} {lb : LB} (hs : St M w0 lb w) {a : Tmp} {T : TypeId} {rs : List ResultVar} {vs : List Value} {b off : Nat} {cs : Array Value} {t : TypeId} {fz : Nat × Nat} {v : Value} (j : Nat)
    (hx : l.getD a undef = .pointer (some ⟨b, off, none⟩)) (hj : lb[j]? = some (b, .cells cs t fz)) (hT : ∀ w, (isAgg T).run P w = .ok false w) (hv : cs.toList[off]? = some v) (hr : RS P w l rs vs) : RS P w l (.cell a T :: rs) (v :: vs) := by
  refine ⟨⟨_, hx, ?_⟩, hr⟩
  have hc : w.cell? ⟨b, off, none⟩ = some v := by rw [cell_of (hs.own _ _ hj).2, ← Array.getElem?_toList]; exact hv
  simp [loadVar, hT, hc]
theorem rs_cellA {M : Nat → Prop} {w0 : World} {lb : LB} (hs : St M w0 lb w) {a : Tmp} {T : TypeId} {rs : List ResultVar} {vs : List Value} {b off n : Nat} {cs : Array Value} {t : TypeId} {fz : Nat × Nat} (j : Nat)
    (hx : l.getD a undef = .pointer (some ⟨b, off, none⟩)) (hj : lb[j]? = some (b, .cells cs t fz)) (hT : ∀ w, (isAgg T).run P w = .ok true w) (hn : ∀ w, (sizeOf T).run P w = .ok n w) (hl : off + n ≤ cs.size) (hr : RS P w l rs vs) :
    RS P w l (.cell a T :: rs) (.agg ((cs.toList.drop off).take n).toArray :: vs) := by
  refine ⟨⟨_, hx, ?_⟩, hr⟩
  simp [loadVar, hT, hn, run_loadCells (hs.own _ _ hj).2 hl]
variable {d : Option Tmp} {ty : TypeId} {pos : String} {af : Array Edge} {g : Option (Nat × Bool)}
theorem x_assert {x : Operand} {s t : TypeId} {ok : Bool} {v xv : Value} (hx : ev l x = xv) (hr : ∀ w, (Instr.typeAssert xv s t ok).run P w = .ok v w) :
    (execOp (ev l) ⟨d, .typeAssert x s t ok, ty, pos, af, g⟩).run P w = .ok (.value v) w := by
  simp [execOp, hx, hr]
theorem x_fieldV {x : Operand} {T : TypeId} {i : Nat} {v xv : Value} (hx : ev l x = xv) (hr : ∀ w, (Instr.field T xv i).run P w = .ok v w) :
    (execOp (ev l) ⟨d, .field T x i, ty, pos, af, g⟩).run P w = .ok (.value v) w := by
  simp [execOp, hx, hr]
theorem equalIn_nn (n : Nat) {t : TypeId} {ms : Array (String × TypeId)} (hu : ∀ w, (underlying t).run P w = .ok (.interface ms) w) (w : World) : (Op.equalIn (n + 1) t .nilIface .nilIface).run P w = .ok true w := by simp [Op.equalIn, hu]
theorem equalIn_in (n : Nat) {t : TypeId} {ms : Array (String × TypeId)} (hu : ∀ w, (underlying t).run P w = .ok (.interface ms) w) (u : TypeId) (v : Value) (w : World) : (Op.equalIn (n + 1) t (.iface u v) .nilIface).run P w = .ok false w := by simp [Op.equalIn, hu]
def eqNilB (op : BinOp) (v : Value) : Option Bool :=
  match op, v with | .eql, .nilIface => some true | .eql, .iface _ _ => some false | .neq, .nilIface => some false | .neq, .iface _ _ => some true | _, _ => none
theorem run_guardNil (op : BinOp) (t : TypeId) (x : Operand) (xv : Value) (h : op = .eql ∨ op = .neq) : (eqGuard op t x (.const .nilIface) xv .nilIface).run P w = .ok () w := by
  rcases h with rfl | rfl <;> cases xv <;> simp [eqGuard]
/-- an interface value held against nil -/
theorem x_eqNil {op : BinOp} {x : Operand} {t u : TypeId} {ms : Array (String × TypeId)} {xv : Value} {b : Bool} (hu : ∀ w, (underlying t).run P w = .ok (.interface ms) w) (hx : ev l x = xv)
    (hb : eqNilB op xv = some b) :
    (execOp (ev l) ⟨d, .binOp op t x (.const .nilIface) u, ty, pos, af, g⟩).run P w = .ok (.value (.bool b)) w := by
  have hn : (Op.equal t .nilIface .nilIface).run P w = .ok true w := equalIn_nn 9999 hu w
  have hi : ∀ u v, (Op.equal t (.iface u v) .nilIface).run P w = .ok false w := fun u v => equalIn_in 9999 hu u v w
  have hev : ev l (.const .nilIface) = .nilIface := rfl
  have h1 := run_guardNil (P := P) (w := w) .eql t x xv (.inl rfl)
  have h2 := run_guardNil (P := P) (w := w) .neq t x xv (.inr rfl)
  cases xv <;> cases op <;> simp only [eqNilB, Option.some.injEq, reduceCtorEq] at hb <;> subst hb <;>
    simp only [execOp, hx, hev, h1, h2, binOp, Sem.run_bind, Sem.run_pure, Result.andThen, hn, hi] <;> rfl
end
end Go.Proofs.Ytpdpajafaifcjaa.Eng
