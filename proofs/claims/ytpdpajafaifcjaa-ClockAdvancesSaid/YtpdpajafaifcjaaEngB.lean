/- The engine's rules, one an operation. Over any program. -/
import Derived.Test.YtpdpajafaifcjaaEngA
namespace Go.Proofs.Ytpdpajafaifcjaa.Eng
open Go.RowKit

/-- a frame -/
def Fr (l : List Value) (ds : List Deferred) : Act := ⟨l.toArray, ds⟩
/-- what an operand holds -/
def ev (l : List Value) : Operand → Value
  | .tmp t => l.getD t undef
  | .const v => v
  | .global g => .pointer (some ⟨g, 0, none⟩)
  | .func f => .func (.func f) #[] #[]
def setD (l : List Value) (d : Option Tmp) (v : Value) : List Value :=
  match d with
  | some d => l.set d v
  | none => l
theorem Fr_put (l : List Value) (ds : List Deferred) (d : Option Tmp) (v : Value) : (Fr l ds).put d v = Fr (setD l d v) ds := by
  cases d <;> simp [Fr, Act.put, setD]
theorem Fr_eval (l : List Value) (ds : List Deferred) (x : Operand) : (Fr l ds).eval x = ev l x := by
  cases x <;> simp [Fr, ev, Act.eval, undef]
/-- is the operation carried out? -/
def wt (ops : Array Oper) (l : List Value) (g : Option (Nat × Bool)) : Bool :=
  match g with
  | none => true
  | some (j, b) => (match (ops.toList[j]?).bind (·.dst) with
    | some t => match l[t]? with
      | some (.bool c) => c == b
      | _ => false
    | none => false)
theorem wanted_Fr {ops : Array Oper} {l : List Value} {ds : List Deferred} {o : Oper} {b : Bool} (h : wt ops l o.guard = b) : Region.wanted o (yielded ops (Fr l ds).tmps) = b := by
  subst h
  unfold Region.wanted wt yielded Fr
  cases o.guard with
  | none => rfl
  | some p =>
    obtain ⟨j, b⟩ := p
    simp only [Array.getElem?_toList, List.getElem?_toArray]
    cases h : (ops[j]?).bind (·.dst) with
    | none => rfl
    | some t =>
      simp only [Option.bind_some]
      cases h2 : l[t]? with
      | none => rfl
      | some v => cases v <;> first | rfl | skip

section
variable {P : Program} {ro : Option Nat} {ops : Array Oper} {rest : List Oper} {l : List Value} {ds : List Deferred} {w : World} {K : Act → World → Prop}
variable {d : Option Tmp} {ty : TypeId} {pos : String} {af : Array Edge} {g : Option (Nat × Bool)}

theorem r_val {op : Op} {v : Value} {w' : World} (hg : wt ops l g = true) (hd : ∀ c, op ≠ .defer c) (hr : (execOp (ev l) ⟨d, op, ty, pos, af, g⟩).run P w = .ok (.value v) w')
    (h : Ops P ro ops rest (Fr (setD l d v) ds) w' K) : Ops P ro ops (⟨d, op, ty, pos, af, g⟩ :: rest) (Fr l ds) w K := by
  refine o_value (wanted_Fr hg) ?_ (v := v) (w' := w') ?_ ?_
  · cases ro with
    | none => rfl
    | some r => exact Oper.semAt_some r _ _ hd
  · rw [show (Fr l ds).eval = ev l from funext (Fr_eval l ds)]; exact hr
  · rw [Fr_put]; exact h
theorem r_v {o : Oper} {v : Value} (hg : wt ops l o.guard = true) (hd : (match o.op with | .defer _ => true | _ => false) = false) (hr : (execOp (ev l) o).run P w = .ok (.value v) w)
    (h : Ops P ro ops rest (Fr (setD l o.dst v) ds) w K) : Ops P ro ops (o :: rest) (Fr l ds) w K :=
  r_val (op := o.op) hg (fun c e => by rw [e] at hd; cases hd) hr h
theorem r_unit {op : Op} {w' : World} (hg : wt ops l g = true) (hd : ∀ c, op ≠ .defer c) (hr : (execOp (ev l) ⟨d, op, ty, pos, af, g⟩).run P w = .ok .skip w')
    (h : Ops P ro ops rest (Fr (setD l d undef) ds) w' K) : Ops P ro ops (⟨d, op, ty, pos, af, g⟩ :: rest) (Fr l ds) w K := by
  refine o_unit (wanted_Fr hg) ?_ (w' := w') ?_ ?_
  · cases ro with
    | none => rfl
    | some r => exact Oper.semAt_some r _ _ hd
  · rw [show (Fr l ds).eval = ev l from funext (Fr_eval l ds)]; exact hr
  · rw [Fr_put]; exact h
theorem r_skip {op : Op} (hg : wt ops l g = false) (h : Ops P ro ops rest (Fr (setD l d undef) ds) w K) : Ops P ro ops (⟨d, op, ty, pos, af, g⟩ :: rest) (Fr l ds) w K := by
  refine o_skip (wanted_Fr hg) ?_
  rw [Fr_put]; exact h

theorem x_move {x : Operand} {v : Value} (hx : ev l x = v) :
    (execOp (ev l) ⟨d, .move x, ty, pos, af, g⟩).run P w = .ok (.value v) w := by subst hx; rfl
theorem x_assign {x : Operand} {v : Value} (hx : ev l x = v) :
    (execOp (ev l) ⟨d, .assign x, ty, pos, af, g⟩).run P w = .ok (.value v) w := by subst hx; rfl
theorem x_pickT {c x y : Operand} {v : Value} (hc : ev l c = .bool true) (hx : ev l x = v) :
    (execOp (ev l) ⟨d, .pick c x y, ty, pos, af, g⟩).run P w = .ok (.value v) w := by simp [execOp, hc, asBool, hx]
theorem x_pickF {c x y : Operand} {v : Value} (hc : ev l c = .bool false) (hx : ev l y = v) :
    (execOp (ev l) ⟨d, .pick c x y, ty, pos, af, g⟩).run P w = .ok (.value v) w := by simp [execOp, hc, asBool, hx]
theorem x_extract {x : Operand} {i : Nat} {vs : Array Value} {v : Value} (hx : ev l x = .tuple vs) (hv : vs[i]? = some v) :
    (execOp (ev l) ⟨d, .extract x i, ty, pos, af, g⟩).run P w = .ok (.value v) w := (by simp [execOp, hx, Instr.extract, hv])
theorem x_iface {x : Operand} {t : TypeId} {dsc : TypeDesc} {v : Value} (hx : ev l x = v) (hu : ∀ w, (underlying t).run P w = .ok dsc w) (hd : (match dsc with | .interface _ => true | _ => false) = false) :
    (execOp (ev l) ⟨d, .makeInterface t x, ty, pos, af, g⟩).run P w = .ok (.value (.iface t v)) w := (by subst hx; cases dsc <;> first | (cases hd; done) | simp [execOp, Instr.makeInterface, hu])
theorem x_makeFunc {f : Fn} {xs ys : Array Operand} {us vs : List Value} (hx : xs.toList.map (ev l) = us) (hy : ys.toList.map (ev l) = vs) :
    (execOp (ev l) ⟨d, .makeFunc f xs ys, ty, pos, af, g⟩).run P w = .ok (.value (.func f us.toArray vs.toArray)) w := by
  have e1 : xs.map (ev l) = us.toArray := by apply Array.toList_inj.1; simp [← hx]
  have e2 : ys.map (ev l) = vs.toArray := by apply Array.toList_inj.1; simp [← hy]
  simp [execOp, Instr.makeFunc, e1, e2]
theorem x_not {x : Operand} {t : TypeId} {b : Bool} (hx : ev l x = .bool b) :
    (execOp (ev l) ⟨d, .unOp .not t x, ty, pos, af, g⟩).run P w = .ok (.value (.bool (!b))) w := (by simp [execOp, hx, Op.unary])
theorem run_eqGuard {op : BinOp} {t : TypeId} {x y : Operand} {k k' : IntKind} {m n : Int} : (eqGuard op t x y (.int k m) (.int k' n)).run P w = .ok () w := by
  unfold eqGuard
  split <;> rfl
def cmpI (op : BinOp) (m n : Int) : Option Bool :=
  match op with | .eql => some (m == n) | .neq => some (m != n) | .lss => some (decide (m < n)) | .leq => some (decide (m ≤ n)) | .gtr => some (decide (m > n)) | .geq => some (decide (m ≥ n)) | _ => none
theorem x_cmp {op : BinOp} {x y : Operand} {t u : TypeId} {k : IntKind} {m n : Int} {b : Bool} (hx : ev l x = .int k m) (hy : ev l y = .int k n)
    (hb : cmpI op m n = some b) :
    (execOp (ev l) ⟨d, .binOp op t x y u, ty, pos, af, g⟩).run P w = .ok (.value (.bool b)) w := (by
    cases op <;> simp only [cmpI, Option.some.injEq, reduceCtorEq] at hb <;> subst hb <;> simp [execOp, hx, hy, run_eqGuard, binOp, Op.intCmp])
def ariI (op : BinOp) (k : IntKind) (m n : Int) : Option Int :=
  match op with
  | .add => some (k.wrap (m + n)) | .sub => some (k.wrap (m - n)) | .mul => some (k.wrap (m * n))
  | .quo => if n = 0 then none else some (k.wrap (m.tdiv n)) | .rem => if n = 0 then none else some (m.tmod n)
  | .and => some (k.wrap (BitVec.ofInt k.bits m &&& BitVec.ofInt k.bits n).toNat)
  | .or => some (k.wrap (BitVec.ofInt k.bits m ||| BitVec.ofInt k.bits n).toNat)
  | .xor => some (k.wrap (BitVec.ofInt k.bits m ^^^ BitVec.ofInt k.bits n).toNat)
  | _ => none
theorem x_ari {op : BinOp} {x y : Operand} {t u : TypeId} {k : IntKind} {m n v : Int} (hx : ev l x = .int k m) (hy : ev l y = .int k n)
    (hb : ariI op k m n = some v) :
    (execOp (ev l) ⟨d, .binOp op t x y u, ty, pos, af, g⟩).run P w = .ok (.value (.int k v)) w := (by
    cases op <;> simp only [ariI, Option.some.injEq, reduceCtorEq] at hb <;>
      first
        | (subst hb; simp [execOp, hx, hy, run_eqGuard, binOp, Op.intArith, Op.intBits]; done)
        | (split at hb; (cases hb); cases hb; simp [execOp, run_eqGuard, binOp, Op.intDiv, *]))
def shI (op : BinOp) (k : IntKind) (m n : Int) : Option Int :=
  if n < 0 then none else
  match op with
  | .shl => some (k.wrap (m * 2 ^ (min n.toNat k.bits)))
  | .shr => some (m.fdiv (2 ^ (min n.toNat k.bits)))
  | _ => none
theorem run_eqGuard_sh {op : BinOp} {t : TypeId} {x y : Operand} {a b : Value} (h : op = .shl ∨ op = .shr) : (eqGuard op t x y a b).run P w = .ok () w := by
  unfold eqGuard
  rcases h with rfl | rfl <;> rfl
theorem x_shift {op : BinOp} {x y : Operand} {t u : TypeId} {k k' : IntKind} {m n v : Int} (hx : ev l x = .int k m) (hy : ev l y = .int k' n)
    (hb : shI op k m n = some v) :
    (execOp (ev l) ⟨d, .binOp op t x y u, ty, pos, af, g⟩).run P w = .ok (.value (.int k v)) w := (by
    unfold shI at hb
    split at hb
    · cases hb
    · cases op <;> simp only [Option.some.injEq, reduceCtorEq] at hb <;> subst hb <;> simp [execOp, run_eqGuard, binOp, Op.shift, *])
theorem x_neg {x : Operand} {t : TypeId} {k : IntKind} {m v : Int} (hx : ev l x = .int k m) (hb : ariI .sub k 0 m = some v) :
    (execOp (ev l) ⟨d, .unOp .neg t x, ty, pos, af, g⟩).run P w = .ok (.value (.int k v)) w := (by simp only [ariI, Option.some.injEq] at hb; subst hb; simp [execOp, hx, Op.unary, Op.intArith])
theorem run_equalIn_bool (n : Nat) (w : World) {t : TypeId} (ht : ∀ w, (underlying t).run P w = .ok .bool w) (x y : Bool) : (Op.equalIn (n + 1) t (.bool x) (.bool y)).run P w = .ok (x == y) w := by
  simp [Op.equalIn, ht]
/-- == and != of bools -/
theorem x_cmpB {op : BinOp} {x y : Operand} {t u : TypeId} {m n b : Bool} (ht : ∀ w, (underlying t).run P w = .ok .bool w) (hx : ev l x = .bool m) (hy : ev l y = .bool n)
    (hb : (match op with | .eql => some (m == n) | .neq => some (!(m == n)) | _ => none) = some b) :
    (execOp (ev l) ⟨d, .binOp op t x y u, ty, pos, af, g⟩).run P w = .ok (.value (.bool b)) w := (by
    have he : ∀ w, (Op.equal t (.bool m) (.bool n)).run P w = .ok (m == n) w := fun w => run_equalIn_bool 9999 w ht m n
    have hq : ∀ w, (eqGuard op t x y (.bool m) (.bool n)).run P w = .ok () w := fun w => by unfold eqGuard; split <;> rfl
    cases op <;> simp only [Option.some.injEq, reduceCtorEq] at hb <;> subst hb <;>
      simp only [execOp, hx, hy, Sem.run_bind, hq, Result.andThen, binOp, he] <;> rfl)
theorem x_conv {x : Operand} {s t : TypeId} {k k' : IntKind} {ds' : TypeDesc} {m v : Int} (hs : ∀ w, (underlying s).run P w = .ok ds' w) (ht : ∀ w, (underlying t).run P w = .ok (.int k) w)
    (hx : ev l x = .int k' m) (hv : k.wrap m = v) :
    (execOp (ev l) ⟨d, .convert s t x, ty, pos, af, g⟩).run P w = .ok (.value (.int k v)) w := (by subst hv; simp [execOp, hx, convert, hs, ht, Conv.intToInt])
/-! memory -/
theorem addr_add (b off n : Nat) : (⟨b, off, none⟩ : Addr).add n = ⟨b, off + n, none⟩ := by
  unfold Addr.add; split
  · rename_i h; subst h; rfl
  · rfl
theorem run_loadCellsFrom {b off : Nat} {cs : Array Value} {t : TypeId} {fz : Nat × Nat} (hb : w.heap[b]? = some (.cells cs t fz)) :
    ∀ (n i : Nat) (acc : Array Value), off + i + n ≤ cs.size → (loadCellsFrom ⟨b, off, none⟩ i n acc).run P w = .ok (acc ++ ((cs.toList.drop (off + i)).take n).toArray) w
  | 0, i, acc, _ => by simp [loadCellsFrom]
  | n + 1, i, acc, h => by
    have hc : w.cell? ⟨b, off + i, none⟩ = some (cs[off + i]'(by omega)) := by rw [cell_of hb]; simp
    unfold loadCellsFrom
    simp only [Sem.run_bind, load, addr_add, Sem.run, hc, Result.andThen]
    rw [run_loadCellsFrom hb n (i + 1) _ (by omega)]
    congr 1
    rw [List.drop_eq_getElem_cons (i := off + i) (by simp; omega), List.take_succ_cons]
    simp [Nat.add_assoc]
theorem run_loadCells {b off n : Nat} {cs : Array Value} {t : TypeId} {fz : Nat × Nat} (hb : w.heap[b]? = some (.cells cs t fz)) (h : off + n ≤ cs.size) :
    (loadCells ⟨b, off, none⟩ n).run P w = .ok ((cs.toList.drop off).take n).toArray w := by
  unfold loadCells
  rw [run_loadCellsFrom hb n 0 #[] (by omega)]
  simp
theorem run_load {a : Addr} {v : Value} (h : w.cell? a = some v) : (load a).run P w = .ok v w := by
  simp [load, Sem.run, h]
theorem x_load {M : Nat → Prop} {w0 : World} {lb : LB} (hs : St M w0 lb w) {x : Operand} {T : TypeId} {b off : Nat} {cs : Array Value} {t : TypeId} {fz : Nat × Nat} {v : Value} (j : Nat)
    (hj : lb[j]? = some (b, .cells cs t fz)) (hx : ev l x = .pointer (some ⟨b, off, none⟩)) (hT : ∀ w, (isAgg T).run P w = .ok false w) (hv : cs.toList[off]? = some v) :
    (execOp (ev l) ⟨d, .load T x, ty, pos, af, g⟩).run P w = .ok (.value v) w := (by
    have hc : w.cell? ⟨b, off, none⟩ = some v := by rw [cell_of (hs.own _ _ hj).2, ← Array.getElem?_toList]; exact hv
    simp [execOp, hx, Instr.loadAt, Instr.sureAddr, loadVar, hT, hc])
theorem x_loadA {M : Nat → Prop} {w0 : World} {lb : LB} (hs : St M w0 lb w) {x : Operand} {T : TypeId} {b off n : Nat} {cs : Array Value} {t : TypeId} {fz : Nat × Nat} (j : Nat)
    (hj : lb[j]? = some (b, .cells cs t fz)) (hx : ev l x = .pointer (some ⟨b, off, none⟩)) (hT : ∀ w, (isAgg T).run P w = .ok true w) (hn : ∀ w, (sizeOf T).run P w = .ok n w) (hl : off + n ≤ cs.size) {u : List Value} (hu : (cs.toList.drop off).take n = u) :
    (execOp (ev l) ⟨d, .load T x, ty, pos, af, g⟩).run P w = .ok (.value (.agg u.toArray)) w := (by
    subst hu
    simp [execOp, hx, Instr.loadAt, Instr.sureAddr, loadVar, hT, hn, run_loadCells (hs.own _ _ hj).2 hl])
theorem r_alloc {M : Nat → Prop} {w0 : World} {lb : LB} (hs : St M w0 lb w) {T : TypeId} {z : Value} (hg : wt ops l g = true) (hz : ∀ w, (zeroValue T).run P w = .ok z w)
    (h : ∀ b w', St M w0 (lb ++ [(b, .cells z.cells T (0, 0))]) w' → Tr lb w (lb ++ [(b, .cells z.cells T (0, 0))]) w' → Ops P ro ops rest (Fr (setD l d (.pointer (some ⟨b, 0, none⟩))) ds) w' K) :
    Ops P ro ops (⟨d, .alloc T, ty, pos, af, g⟩ :: rest) (Fr l ds) w K :=
  r_val hg (fun _ h => by cases h) (w' := w.alloc (.cells z.cells T)) (v := .pointer (some ⟨w.heap.size, 0, none⟩)) (by
    simp [execOp, Instr.alloc, hz, newVar, newRow]) (h _ _ (hs.alloc _) (Tr.alloc _ _ _))
theorem r_box {M : Nat → Prop} {w0 : World} {lb : LB} (hs : St M w0 lb w) {T : TypeId} {x : Operand} {v : Value} (hg : wt ops l g = true) (hx : ev l x = v)
    (h : ∀ b w', St M w0 (lb ++ [(b, .cells v.cells T (0, 0))]) w' → Tr lb w (lb ++ [(b, .cells v.cells T (0, 0))]) w' → Ops P ro ops rest (Fr (setD l d (.pointer (some ⟨b, 0, none⟩))) ds) w' K) :
    Ops P ro ops (⟨d, .box T x, ty, pos, af, g⟩ :: rest) (Fr l ds) w K :=
  r_val hg (fun _ h => by cases h) (w' := w.alloc (.cells v.cells T)) (v := .pointer (some ⟨w.heap.size, 0, none⟩)) (by
    simp [execOp, Instr.box, hx, newVar, newRow]) (h _ _ (hs.alloc _) (Tr.alloc _ _ _))
theorem x_field {x : Operand} {T : TypeId} {i b off : Nat} {fs : Array Field} {f : Field} {n : Nat} (hu : ∀ w, (underlying T).run P w = .ok (.struct fs) w) (hf : fs[i]? = some f)
    (hn : ∀ w, (sizeOf f.type).run P w = .ok (n + 1) w) (hx : ev l x = .pointer (some ⟨b, off, none⟩)) :
    (execOp (ev l) ⟨d, .fieldAddr T x i, ty, pos, af, g⟩).run P w = .ok (.value (.pointer (some ⟨b, off + f.offset, none⟩))) w := (by
    simp [execOp, hx, Instr.fieldAt, hu, hf, Instr.sureAddr, fieldPlace, hn, addr_add])
/-- is a value one that fills one cell? -/
def one : Value → Bool
  | .agg _ | .tuple _ => false
  | _ => true
/-- cells from off on turned into vs -/
def upd (cs : List Value) (off : Nat) (vs : List Value) : List Value := cs.take off ++ vs ++ cs.drop (off + vs.length)
theorem upd_nil (cs : List Value) (off : Nat) : upd cs off [] = cs := by simp [upd]
theorem upd_length (cs : List Value) (off : Nat) (vs : List Value) (h : off + vs.length ≤ cs.length) : (upd cs off vs).length = cs.length := by
  simp [upd]; omega
theorem upd_cons (cs : List Value) (off : Nat) (v : Value) (vs : List Value) (h : off + (v :: vs).length ≤ cs.length) : upd (cs.set off v) (off + 1) vs = upd cs off (v :: vs) := by
  simp only [List.length_cons] at h
  unfold upd
  have e1 : (cs.set off v).take (off + 1) = cs.take off ++ [v] := by
    rw [List.take_succ_eq_append_getElem (by simp; omega), List.take_set_of_le (Nat.le_refl off)]
    simp
  have e2 : (cs.set off v).drop (off + 1 + vs.length) = cs.drop (off + (v :: vs).length) := by
    rw [List.drop_set_of_lt (by omega)]
    congr 1
    simp
    omega
  rw [e1, e2]
  simp
theorem run_store {b o : Nat} {cs : Array Value} {t : TypeId} {v : Value} (hb : w.heap[b]? = some (.cells cs t (0, 0))) (ho : o < cs.size) (hv : one v = true) :
    (store ⟨b, o, none⟩ v).run P w = .ok () (w.setCell ⟨b, o, none⟩ v) := by
  have hc : w.cell? ⟨b, o, none⟩ = some cs[o] := by rw [cell_of hb]; simp [ho]
  have hf : w.frozen? ⟨b, o, none⟩ = false := frozen_of hb o
  cases v <;> first | (cases hv; done) | simp [store, Sem.run, hc, hf]
theorem run_storeCells {b : Nat} {t : TypeId} : ∀ (vs : List Value) (off i : Nat) (cs : Array Value) (w : World), w.heap[b]? = some (.cells cs t (0, 0)) → off + i + vs.length ≤ cs.size → (∀ v ∈ vs, one v = true) →
    ∃ w', (storeCells ⟨b, off, none⟩ vs i).run P w = .ok () w' ∧ w'.heap[b]? = some (.cells (upd cs.toList (off + i) vs).toArray t (0, 0)) ∧ Kept (· = b) w w'
  | [], off, i, cs, w, hb, _, _ => ⟨w, by simp [storeCells], by rw [upd_nil]; exact hb, Kept.refl _ _⟩
  | v :: vs, off, i, cs, w, hb, hl, hv => by
    have h1 := run_store (P := P) (o := off + i) hb (by simp at hl; omega) (hv v (by simp))
    have e1 := setCell_turned hb (off + i) v
    have hb' : (w.setCell ⟨b, off + i, none⟩ v).heap[b]? = some (.cells (cs.setIfInBounds (off + i) v) t (0, 0)) := by rw [e1]; exact turned_block _ hb
    obtain ⟨w', h2, h3, h4⟩ := run_storeCells vs off (i + 1) _ _ hb' (by simp at hl ⊢; omega) (fun u hu => hv u (by simp [hu]))
    refine ⟨w', ?_, ?_, ?_⟩
    · unfold storeCells
      simp only [Sem.run_bind, addr_add, h1, Result.andThen]
      exact h2
    · rw [h3]
      congr 2
      rw [Array.toList_setIfInBounds, show off + (i + 1) = (off + i) + 1 from by omega, upd_cons _ _ _ _ (by simpa using hl)]
    · refine Kept.trans ?_ h4
      rw [e1]; exact kept_turned _ _ _
theorem r_store {M : Nat → Prop} {w0 : World} {lb : LB} (hs : St M w0 lb w) {T : TypeId} {x y : Operand} {b off : Nat} {cs : Array Value} {t : TypeId} {v : Value} (j : Nat) (hj : lb[j]? = some (b, .cells cs t (0, 0)))
    (hg : wt ops l g = true) (hx : ev l x = .pointer (some ⟨b, off, none⟩)) (hy : ev l y = v) (hn : ∀ w, (sizeOf T).run P w = .ok v.cells.size w) (hl : off + v.cells.size ≤ cs.size) (ho : v.cells.toList.all one = true)
    (h : ∀ w', St M w0 (lb.set j (b, .cells (upd cs.toList off v.cells.toList).toArray t (0, 0))) w' → Tr lb w (lb.set j (b, .cells (upd cs.toList off v.cells.toList).toArray t (0, 0))) w' → Ops P ro ops rest (Fr (setD l d undef) ds) w' K) :
    Ops P ro ops (⟨d, .store T x y, ty, pos, af, g⟩ :: rest) (Fr l ds) w K := by
  obtain ⟨w', h1, h2, h3⟩ := run_storeCells (P := P) v.cells.toList off 0 cs w (hs.own _ _ hj).2 (by simpa using hl) (List.all_eq_true.1 ho)
  refine r_unit hg (fun _ h => by cases h) (w' := w') ?_ (h w' (hs.turnBy _ hj h3 h2) (Tr.turnBy _ hj h3))
  simp [execOp, hx, hy, Instr.storeAt, Instr.sureAddr, storeVar, hn, h1]

/-! strings, as lists of bytes -/
def str (s : List UInt8) : Value := .string ⟨s.toArray⟩
theorem r_builtin {b : Builtin} {xs : Array Operand} {ts : Array TypeId} {t : TypeId} {args : List Value} {v : Value} {w' : World} (hg : wt ops l g = true) (ha : xs.toList.map (ev l) = args)
    (hr : (builtin b ts t (xs.map fun | .const _ => true | _ => false) args.toArray).run P w = .ok (.value v) w')
    (h : Ops P ro ops rest (Fr (setD l d v) ds) w' K) : Ops P ro ops (⟨d, .call ⟨.builtin b, xs, ts⟩, t, pos, af, g⟩ :: rest) (Fr l ds) w K :=
  r_val hg (fun _ h => by cases h) (by
    have e1 : xs.map (ev l) = args.toArray := by apply Array.toList_inj.1; simp [← ha]
    unfold execOp resolve
    simp only [Sem.run_bind, Sem.run_pure, Result.andThen, invoke, e1]
    exact hr) h
theorem x_builtin {b : Builtin} {xs : Array Operand} {ts : Array TypeId} {t : TypeId} {args : List Value} {v : Value} {w' : World} (ha : xs.toList.map (ev l) = args)
    (hr : (builtin b ts t (xs.map fun | .const _ => true | _ => false) args.toArray).run P w = .ok (.value v) w') :
    (execOp (ev l) ⟨d, .call ⟨.builtin b, xs, ts⟩, t, pos, af, g⟩).run P w = .ok (.value v) w' := by
  have e1 : xs.map (ev l) = args.toArray := by apply Array.toList_inj.1; simp [← ha]
  unfold execOp resolve
  simp only [Sem.run_bind, Sem.run_pure, Result.andThen, invoke, e1]
  exact hr
theorem x_lenS {x : Operand} {t u : TypeId} {s : List UInt8} (hu : ∀ w, (underlying u).run P w = .ok .string w) (hx : ev l x = str s) :
    (execOp (ev l) ⟨d, .call ⟨.builtin .len, #[x], #[u]⟩, t, pos, af, g⟩).run P w = .ok (.value (.int .i64 s.length)) w :=
  x_builtin rfl (by
    simp only [builtin, Builtin.len_, List.map_cons, List.map_nil, hx, str]
    simp only [List.getElem?_toArray, List.getElem?_cons_zero, Sem.run_bind, hu, Result.andThen, Sem.run_pure]
    rfl)
theorem x_lenSl {x : Operand} {t u e : TypeId} {p : Option Addr} {n c : Nat} (hu : ∀ w, (underlying u).run P w = .ok (.slice e) w) (hx : ev l x = .slice p n c) :
    (execOp (ev l) ⟨d, .call ⟨.builtin .len, #[x], #[u]⟩, t, pos, af, g⟩).run P w = .ok (.value (.int .i64 n)) w :=
  x_builtin rfl (by
    simp only [builtin, Builtin.len_, List.map_cons, List.map_nil, hx]
    simp only [List.getElem?_toArray, List.getElem?_cons_zero, Sem.run_bind, hu, Result.andThen, Sem.run_pure]
    rfl)
theorem x_min {x y : Operand} {t u u' : TypeId} {k : IntKind} {m n v : Int} (hx : ev l x = .int k m) (hy : ev l y = .int k n) (hv : (if n < m then n else m) = v) :
    (execOp (ev l) ⟨d, .call ⟨.builtin .min, #[x, y], #[u, u']⟩, t, pos, af, g⟩).run P w = .ok (.value (.int k v)) w :=
  x_builtin rfl (by
    subst hv
    simp [builtin, Builtin.min_, Builtin.min2, hx, hy])
theorem x_max {x y : Operand} {t u u' : TypeId} {k : IntKind} {m n v : Int} (hx : ev l x = .int k m) (hy : ev l y = .int k n) (hv : (if n > m then n else m) = v) :
    (execOp (ev l) ⟨d, .call ⟨.builtin .max, #[x, y], #[u, u']⟩, t, pos, af, g⟩).run P w = .ok (.value (.int k v)) w :=
  x_builtin rfl (by
    subst hv
    simp [builtin, Builtin.max_, Builtin.max2, hx, hy])
theorem x_build {T : TypeId} {parts : Array (Nat × Operand)} {ps : List (Nat × Value)} {v : Value} (hp : parts.toList.map (fun p => (p.1, ev l p.2)) = ps) (hr : ∀ w, (Instr.build T ps.toArray).run P w = .ok v w) :
    (execOp (ev l) ⟨d, .build T parts, ty, pos, af, g⟩).run P w = .ok (.value v) w := by
  have e1 : parts.map (fun (i, x) => (i, ev l x)) = ps.toArray := by apply Array.toList_inj.1; simp [← hp]
  simp only [execOp, e1]
  simp [hr]
/-- 's[i]' -/
theorem x_indexS {x y : Operand} {T : TypeId} {s : List UInt8} {k : IntKind} {i : Nat} {b : UInt8} (hu : ∀ w, (underlying T).run P w = .ok .string w) (hx : ev l x = str s) (hy : ev l y = .int k i) (hb : s[i]? = some b) :
    (execOp (ev l) ⟨d, .index T x y, ty, pos, af, g⟩).run P w = .ok (.value (.int .u8 b.toNat)) w := by
  obtain ⟨hi, rfl⟩ := List.getElem?_eq_some_iff.1 hb
  have h1 : (0 : Int) ≤ i := by omega
  have h2 : (⟨s.toArray⟩ : ByteArray)[i]? = some s[i] := by
    rw [getElem?_pos (⟨s.toArray⟩ : ByteArray) i (show i < s.toArray.size by simpa using hi)]; rfl
  simp [execOp, Instr.index, hx, hy, str, asIntOf, hu, h2]
/-- 's[lo:hi]' of a string -/
theorem x_sliceS {x : Operand} {T : TypeId} {s : List UInt8} {lo hi : Option Operand} {a b : Nat} (hu : ∀ w, (underlying T).run P w = .ok .string w) (hx : ev l x = str s)
    (hlo : (match lo with | some y => ∃ k, ev l y = .int k a | none => a = 0)) (hhi : (match hi with | some y => ∃ k, ev l y = .int k b | none => b = s.length)) (hab : a ≤ b) (hb : b ≤ s.length) :
    (execOp (ev l) ⟨d, .slice T x lo hi none, ty, pos, af, g⟩).run P w = .ok (.value (str ((s.take b).drop a))) w := by
  have e1 : (⟨s.toArray⟩ : ByteArray).extract a b = ⟨((s.take b).drop a).toArray⟩ := by
    apply ByteArray.ext; simp [ByteArray.data_extract, List.drop_take]
  have hsz : (⟨s.toArray⟩ : ByteArray).size = s.length := rfl
  cases lo with
  | none =>
    simp only at hlo
    subst hlo
    cases hi with
    | none =>
      simp only at hhi
      subst hhi
      simp [execOp, Instr.sliceAt, Instr.slice, Instr.sliceBounds, hx, str, hu]
    | some y =>
      obtain ⟨k, hk⟩ := hhi
      simp [execOp, Instr.sliceAt, Instr.slice, Instr.sliceBounds, Instr.sliceBound, asIntOf, hx, hk, str, hu, hsz, hb, e1]
  | some z =>
    obtain ⟨k', hk'⟩ := hlo
    cases hi with
    | none =>
      simp only at hhi
      subst hhi
      simp [execOp, Instr.sliceAt, Instr.slice, Instr.sliceBounds, Instr.sliceBound, asIntOf, hx, hk', str, hu, hsz, hab, e1]
    | some y =>
      obtain ⟨k, hk⟩ := hhi
      simp [execOp, Instr.sliceAt, Instr.slice, Instr.sliceBounds, Instr.sliceBound, asIntOf, hx, hk, hk', str, hu, hsz, hab, hb, e1]
/-! calls of functions, and of function values -/
theorem r_call {xs : Array Operand} {ts : Array TypeId} {cf : Operand} {t : TypeId} {M : Nat → Prop} {f : FuncId} {fst cap : Array Value} {args : List Value} {R : Value → World → Prop} (hg : wt ops l g = true) (hf : ev l cf = .func (.func f) fst cap)
    (hcf : ∀ args w, (callFunc f args).run P w = .ok (.enter f args) w) (ha : fst.toList ++ xs.toList.map (ev l) ++ cap.toList = args) (hc : Ok P M f args.toArray w R)
    (h : ∀ v w', Kept M w w' → R v w' → Ops P ro ops rest (Fr (setD l d v) ds) w' K) : Ops P ro ops (⟨d, .call ⟨.value cf, xs, ts⟩, t, pos, af, g⟩ :: rest) (Fr l ds) w K := by
  have ha' : fst ++ xs.map (ev l) ++ cap = args.toArray := by
    apply Array.toList_inj.1
    simp [← ha]
  refine o_call (wanted_Fr hg) ?_ (f := f) (args := args.toArray) ?_ rfl hc fun v w' hb r => ?_
  · cases ro with
    | none => rfl
    | some r => exact Oper.semAt_some r _ _ (fun _ h => by cases h)
  · rw [show (Fr l ds).eval = ev l from funext (Fr_eval l ds), ← ha']
    simp [execOp, resolve, hf, Deferred.ofValue, invoke, hcf]
  · rw [Fr_put]; exact h v w' hb r
/-- a call of a method through an interface value -/
theorem r_invoke {xs : Array Operand} {ts : Array TypeId} {rc : Operand} {nm : String} {t u : TypeId} {M : Nat → Prop} {f : FuncId} {v rv : Value} {args : List Value} {R : Value → World → Prop} (hg : wt ops l g = true) (hf : ev l rc = .iface u v)
    (hm : ∀ w, (method (P.types.size + Made.depth) u v nm).run P w = .ok (f, rv) w)
    (hcf : ∀ args w, (callFunc f args).run P w = .ok (.enter f args) w) (ha : rv :: xs.toList.map (ev l) = args) (hc : Ok P M f args.toArray w R)
    (h : ∀ v w', Kept M w w' → R v w' → Ops P ro ops rest (Fr (setD l d v) ds) w' K) : Ops P ro ops (⟨d, .call ⟨.invoke rc nm, xs, ts⟩, t, pos, af, g⟩ :: rest) (Fr l ds) w K := by
  refine o_call (wanted_Fr hg) ?_ (f := f) (args := args.toArray) ?_ rfl hc fun v w' hb r => ?_
  · cases ro with
    | none => rfl
    | some r => exact Oper.semAt_some r _ _ (fun _ h => by cases h)
  · rw [show (Fr l ds).eval = ev l from funext (Fr_eval l ds), ← ha]
    have e : #[Value.iface u v] ++ xs.map (ev l) = (Value.iface u v :: xs.toList.map (ev l)).toArray := by apply Array.toList_inj.1; simp
    have e2 : (xs.map (ev l)) = (xs.toList.map (ev l)).toArray := by apply Array.toList_inj.1; simp
    simp only [execOp, resolve, hf, Sem.run_bind, Sem.run_pure, Result.andThen, invoke, callMethod]
    have e3 : List.take xs.size (List.map (ev l) xs.toList) = List.map (ev l) xs.toList := List.take_of_length_le (by simp)
    simp [program, Sem.run, hm, hcf, Result.andThen, e2, e3]
  · rw [Fr_put]; exact h v w' hb r
end
end Go.Proofs.Ytpdpajafaifcjaa.Eng
