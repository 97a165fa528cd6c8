/- The engine's rules for a range over a function, and for the functions that are ranged over. Over any program. -/
import Derived.Test.YtpdpajafaifcjaaEngR
namespace Go.Proofs.Ytpdpajafaifcjaa.Eng
open Go.RowKit

variable {P : Program} {M Mu : Nat → Prop} {w w' w0 : World} {l l' : LB}
/-- a call of yield: it hands back b -/
def YR (P : Program) (lp : Nat) (args : Array Value) (W : World) (R : Bool → World → Prop) : Prop :=
  ∃ fn tmps assign body, (Instr.yield lp args).run P W = .ok (.round lp fn tmps assign body) W ∧
    RoundIn (FW none) 0 P lp fn tmps assign body W fun e W' => ∃ b, e = .returned (.bool b) ∧ R b W'
/-- a function that is ranged over: it yields xs, one by one, till it is told to stop; between two rounds it turns nothing that is there -/
def Iter (P : Program) (gf : FuncId) (cap : Array Value) (xs : List (Array Value)) (Mu : Nat → Prop) (w : World) : Prop :=
  ∀ (lp : Nat) (J : Nat → World → Prop) (E : World → Prop), (∀ i W W', J i W → Kept No W W' → J i W') → (∀ W W', E W → Kept No W W' → E W') →
    (∀ i (hi : i < xs.length) W, Kept Mu w W → J i W → YR P lp xs[i] W fun b W' => Kept Mu W W' ∧ (if b then J (i + 1) W' else E W')) → J 0 w →
    Calls P gf (#[.func (.yield lp) #[] #[]] ++ cap) w fun e W' => (∃ v, e = .returned v) ∧ (J xs.length W' ∨ E W')

/-- the blocks of a list -/
def MuOf (l : LB) : Nat → Prop := fun b => ∃ (i : Nat) (p : Nat × Obj), l[i]? = some p ∧ p.1 = b
theorem St.rebase (h : St M w0 l w) : St (MuOf l) w l w := ⟨Kept.refl _ _, h.inj, fun i p hp => ⟨.inl ⟨i, p, hp, rfl⟩, (h.own i p hp).2⟩⟩
theorem St.muLt (h : St M w0 l w) {b : Nat} (hb : MuOf l b) : b < w.heap.size := by
  obtain ⟨i, p, hp, rfl⟩ := hb
  exact h.lt hp
/-- what was done since, to the same blocks -/
theorem St.join {w1 : World} (h : St M w0 l w) (h' : St (MuOf l) w l' w1) : St M w0 l' w1 := by
  refine ⟨?_, h'.inj, fun i p hp => ⟨?_, (h'.own i p hp).2⟩⟩
  · refine ⟨h'.kept.os.trans h.kept.os, h'.kept.tape.trans h.kept.tape, h'.kept.output.trans h.kept.output, Nat.le_trans h.kept.size h'.kept.size, fun k hk hm => ?_⟩
    rw [h'.kept.block k (Nat.lt_of_lt_of_le hk h.kept.size) ?_, h.kept.block k hk hm]
    rintro ⟨i, p, hp, rfl⟩
    rcases (h.own i p hp).1 with h1 | h1
    · exact hm h1
    · omega
  · rcases (h'.own i p hp).1 with ⟨j, q, hq, e⟩ | h1
    · rw [← e]; exact (h.own j q hq).1
    · exact .inr (Nat.le_trans h.kept.size h1)
theorem St.prefix (h : St M w0 (l ++ l') w) : St M w0 l w := by
  have hg : ∀ i p, l[i]? = some p → (l ++ l')[i]? = some p := fun i p hp => by
    rw [List.getElem?_append, if_pos (List.getElem?_eq_some_iff.1 hp).1]; exact hp
  exact ⟨h.kept, fun i j p q hp hq => h.inj i j p q (hg _ _ hp) (hg _ _ hq), fun i p hp => h.own i p (hg _ _ hp)⟩
theorem off_prefix {b : Nat} (h : Off (l ++ l') b) : Off l b := fun i p hp => h i p (by
    rw [List.getElem?_append, if_pos (List.getElem?_eq_some_iff.1 hp).1]; exact hp)
theorem KP.prefix {A : Nat → Prop} : KP (In A w0 (l ++ l')) w (In A w0 l) w := fun _ _ h => ⟨⟨off_prefix h.1, h.2⟩, rfl⟩
theorem KP.join {A : Nat → Prop} {w1 : World} (h : St M w0 l w) : KP (In (In A w0 l) w l') w1 (In A w0 l') w1 := fun _ _ ⟨h1, h2⟩ =>
  ⟨⟨h1, h2.elim (fun h => h.2) (fun h3 => .inr (Nat.le_trans h.kept.size h3))⟩, rfl⟩
/-- blocks that stay, whatever the rounds do -/
theorem KP.round {A : Nat → Prop} (hA : ∀ b, A b → ¬ Mu b) (h : Kept Mu w w') : KP A w A w' := fun b hb ha => ⟨ha, h.block b hb (hA b ha)⟩

section
variable {ro : Option Nat} {ops : Array Oper} {rest : List Oper} {lv : List Value} {ds : List Deferred} {K : Act → World → Prop}
variable {d : Option Tmp} {ty : TypeId} {pos : String} {af : Array Edge} {g : Option (Nat × Bool)}
theorem roundIn_FW {m lp : Nat} {f : FuncId} {tmps : Array Value} {assign body : Code} {R : Ending → World → Prop} (h : RoundIn (FW none) m P lp f tmps assign body w R) : RoundIn (FW ro) m P lp f tmps assign body w R := h
theorem r_yield {cf : Operand} {xs : Array Operand} {ts : Array TypeId} {t : TypeId} {lp : Nat} {args : List Value} {R : Bool → World → Prop} (hg : wt ops lv g = true) (hf : ev lv cf = .func (.yield lp) #[] #[]) (ha : xs.toList.map (ev lv) = args)
    (hy : YR P lp args.toArray w R) (h : ∀ b w', R b w' → Ops P ro ops rest (Fr (setD lv d (.bool b)) ds) w' K) : Ops P ro ops (⟨d, .call ⟨.value cf, xs, ts⟩, t, pos, af, g⟩ :: rest) (Fr lv ds) w K := by
  obtain ⟨fn, tmps, assign, body, h1, h2⟩ := hy
  unfold Ops wpListIn
  rw [if_pos (wanted_Fr hg)]
  refine ⟨fun _ _ => trivial, ?_⟩
  have hs : (⟨d, .call ⟨.value cf, xs, ts⟩, t, pos, af, g⟩ : Oper).semAt ro (Fr lv ds).eval = execOp (ev lv) ⟨d, .call ⟨.value cf, xs, ts⟩, t, pos, af, g⟩ := by
    rw [show (Fr lv ds).eval = ev lv from funext (Fr_eval lv ds)]
    cases ro with
    | none => rfl
    | some r => exact Oper.semAt_some r _ _ (fun _ h => by cases h)
  have hr : (execOp (ev lv) ⟨d, .call ⟨.value cf, xs, ts⟩, t, pos, af, g⟩).run P w = .ok (.round lp fn tmps assign body) w := by
    have e1 : xs.map (ev lv) = args.toArray := by apply Array.toList_inj.1; simp [← ha]
    unfold execOp resolve
    simp only [hf, e1, Deferred.ofValue, Sem.run_bind, Sem.run_pure, Result.andThen, invoke]
    simpa using h1
  rw [FW_round, hs, hr]
  refine ⟨fun h => (by cases h), RoundIn.mono (roundIn_FW h2) ?_⟩
  rintro e W' ⟨b, rfl, hR⟩
  have := h b W' hR
  rw [← Fr_put] at this
  exact this

/-- the record of a loop -/
def rec0 (fn : FuncId) (lv : List Value) (ps : Array Tmp) (assign body : Code) (D : Nat) (st : LoopState) (pend : Option Code) : Obj :=
  .loop { state := st, pending := pend, fn, tmps := lv.toArray, params := ps, assign, body, defers := D }
/-- the two blocks of a loop -/
def two (D : Nat) (r : Obj) : LB := [(D, .deferred (some [])), (D + 1, r)]
/-- facts that stay with the blocks that they speak of -/
def Stb (F : (Nat → Prop) → World → Prop) : Prop := ∀ A W A' W', KP A W A' W' → F A W → F A' W'
theorem in_congr {A : Nat → Prop} {l l' : LB} (h : l.map (·.1) = l'.map (·.1)) : In A w0 l = In A w0 l' := by
  have key : ∀ (l l' : LB), l.map (·.1) = l'.map (·.1) → ∀ b, Off l b → Off l' b := fun l l' h b ho i p hp e => by
    have h1 : (l'.map (·.1))[i]? = some p.1 := by rw [List.getElem?_map, hp]; rfl
    rw [← h, List.getElem?_map] at h1
    cases hq : l[i]? with
    | none => rw [hq] at h1; cases h1
    | some q =>
      rw [hq] at h1
      exact ho i q hq ((Option.some.inj h1).trans e)
  funext b
  exact propext ⟨fun h1 => ⟨key _ _ h b h1.1, h1.2⟩, fun h1 => ⟨key _ _ h.symm b h1.1, h1.2⟩⟩
theorem mu_congr {l l' : LB} (h : l.map (·.1) = l'.map (·.1)) : MuOf l = MuOf l' := by
  have key : ∀ (l l' : LB), l.map (·.1) = l'.map (·.1) → ∀ b, MuOf l b → MuOf l' b := fun l l' h b ⟨i, p, hp, e⟩ => by
    have h1 : (l.map (·.1))[i]? = some p.1 := by rw [List.getElem?_map, hp]; rfl
    rw [h, List.getElem?_map] at h1
    cases hq : l'[i]? with
    | none => rw [hq] at h1; cases h1
    | some q =>
      rw [hq] at h1
      exact ⟨i, q, hq, (Option.some.inj h1).trans e⟩
  funext b
  exact propext ⟨key _ _ h b, key _ _ h.symm b⟩
theorem get_two1 (l : LB) (D : Nat) (r : Obj) (l' : LB) : ((l ++ two D r) ++ l')[l.length + 1]? = some (D + 1, r) := by
  rw [List.getElem?_append, if_pos (by simp [two])]
  rw [List.getElem?_append, if_neg (by omega)]
  simp [two]
theorem get_two1' (l : LB) (D : Nat) (r : Obj) : (l ++ two D r)[l.length + 1]? = some (D + 1, r) := by
  have := get_two1 l D r []
  rwa [List.append_nil] at this
theorem set_two (l : LB) (D : Nat) (r r' : Obj) (l' : LB) : ((l ++ two D r) ++ l').set (l.length + 1) (D + 1, r') = (l ++ two D r') ++ l' := by
  rw [List.set_append, if_pos (by simp [two]), List.set_append, if_neg (by omega)]
  simp [two]
theorem set_two' (l : LB) (D : Nat) (r r' : Obj) : (l ++ two D r).set (l.length + 1) (D + 1, r') = l ++ two D r' := by
  have := set_two l D r r' []
  rwa [List.append_nil, List.append_nil] at this
theorem kept_putObj (W : World) (k : Nat) (o : Obj) : Kept (· = k) W (W.putObj k o) := by
  refine ⟨rfl, rfl, rfl, by simp [World.putObj], fun i _ h => ?_⟩
  exact World.putObj_heap_other (fun e => h e)
def cn : Obj := .coro none
/-- the blocks that a round may turn -/
def MuL (l0 : LB) (D : Nat) : Nat → Prop := MuOf (l0 ++ two D cn)
def InL (A : Nat → Prop) (w0 : World) (l0 : LB) (D : Nat) : Nat → Prop := In A w0 (l0 ++ two D cn)
/-- the parameters of a round -/
def setPs : List Value → List Tmp → List Value → List Value
  | lv, p :: ps, v :: vs => setPs (lv.set p v) ps vs
  | lv, _, _ => lv
theorem setPs_eq (lv : List Value) (ps : Array Tmp) (vs : Array Value) : (ps.zip vs).foldl (fun t (p, v) => t.setIfInBounds p v) lv.toArray = (setPs lv ps.toList vs.toList).toArray := by
  have key : ∀ (ps : List Tmp) (vs : List Value) (lv : List Value), (ps.zip vs).foldl (fun t (p, v) => t.setIfInBounds p v) lv.toArray = (setPs lv ps vs).toArray := by
    intro ps
    induction ps with
    | nil => intro vs lv; simp [setPs]
    | cons p ps ih =>
      intro vs lv
      cases vs with
      | nil => simp [setPs]
      | cons v vs => simp only [List.zip_cons_cons, List.foldl_cons, setPs, List.setIfInBounds_toArray]; exact ih vs _
  rw [← Array.foldl_toList, Array.toList_zip]
  exact key _ _ _

section
variable {σ : Type} (A : Nat → Prop) (w0 : World) (l0 : LB) (L : Nat → σ → LB) (F : Nat → σ → (Nat → Prop) → World → Prop) (LE : Code → σ → LB) (FE : Code → σ → (Nat → Prop) → World → Prop)
/-- what is asked of a round's end. L, F: the blocks and the facts behind i rounds; LE, FE: where a round has left the loop -/
def BodyQ (D : Nat) (busy : Obj) (i : Nat) (W : World) : Exit → Act → World → Prop
  | .normal, _, W' => ∃ s l', St (MuL l0 D) W ((L (i + 1) s ++ two D busy) ++ l') W' ∧ F (i + 1) s (In (InL A w0 l0 D) W ((L (i + 1) s ++ two D busy) ++ l')) W'
  | .ret, _, W' => ∃ s l', St (MuL l0 D) W ((LE .ret s ++ two D busy) ++ l') W' ∧ FE .ret s (In (InL A w0 l0 D) W ((LE .ret s ++ two D busy) ++ l')) W'
  | .exit id, _, W' => ∃ s l', St (MuL l0 D) W ((LE (.exit id) s ++ two D busy) ++ l') W' ∧ FE (.exit id) s (In (InL A w0 l0 D) W ((LE (.exit id) s ++ two D busy) ++ l')) W'
  | .goto t, _, W' => ∃ s l', St (MuL l0 D) W ((LE (.goto t) s ++ two D busy) ++ l') W' ∧ FE (.goto t) s (In (InL A w0 l0 D) W ((LE (.goto t) s ++ two D busy) ++ l')) W'
  | _, _, _ => False
end
variable {A : Nat → Prop} {l0 : LB} {Q : Exit → Act → World → Prop}
theorem c_range {σ : Type} (L : Nat → σ → LB) (F : Nat → σ → (Nat → Prop) → World → Prop) (LE : Code → σ → LB) (FE : Code → σ → (Nat → Prop) → World → Prop) (A : Nat → Prop) (hs : St M w0 l0 w)
    {gO : Operand} {gf : FuncId} {cap : Array Value} {ps : Array Tmp} {assign body : Code} (xs : List (Array Value))
    (hg : ev lv gO = .func (.func gf) #[] cap) (hcf : ∀ args w, (callFunc gf args).run P w = .ok (.enter gf args) w) (hps : ∀ x ∈ xs, x.size = ps.size)
    (hL : ∀ i s, (L i s).map (·.1) = l0.map (·.1)) (hLE : ∀ c s, (LE c s).map (·.1) = l0.map (·.1)) (hF : ∀ i s, Stb (F i s)) (hFE : ∀ c s, Stb (FE c s))
    (hit : ∀ D r W, St M w0 (l0 ++ two D r) W → Tr l0 w (l0 ++ two D r) W → Iter P gf cap xs (MuL l0 D) W)
    (s0 : σ) (hL0 : L 0 s0 = l0) (h0 : ∀ D r W, St M w0 (l0 ++ two D r) W → Tr l0 w (l0 ++ two D r) W → F 0 s0 (In A w0 (l0 ++ two D r)) W)
    (hbody : ∀ i (hi : i < xs.length) s D rdy busy W, St (MuL l0 D) W (L i s ++ two D rdy) W → F i s (In (InL A w0 l0 D) W (L i s ++ two D rdy)) W →
      assign.wpIn (FW (some (D + 1))) 0 P (Exit.then (fun a1 W1 => ∃ l1, St (MuL l0 D) W ((L i s ++ two D rdy) ++ l1) W1 ∧ ∀ W2, St (MuL l0 D) W ((L i s ++ two D busy) ++ l1) W2 →
        Tr ((L i s ++ two D rdy) ++ l1) W1 ((L i s ++ two D busy) ++ l1) W2 → body.wpIn (FW (some (D + 1))) 0 P (BodyQ A w0 l0 L F LE FE D busy i W) a1 W2) (fun _ _ _ => False)) (Fr (setPs lv ps.toList xs[i].toList) []) W)
    (hdone : ∀ s D r W, St M w0 (L xs.length s ++ two D r) W → F xs.length s (In A w0 (L xs.length s ++ two D r)) W → Q .normal (Fr lv (⟨.collected D, #[]⟩ :: ds)) W)
    (hstop : ∀ c s D r W, St M w0 (LE c s ++ two D r) W → FE c s (In A w0 (LE c s ++ two D r)) W → c.wpIn (FW none) 0 P Q (Fr lv (⟨.collected D, #[]⟩ :: ds)) W) :
    (Code.rangeFunc gO ps assign body).wpIn (FW none) 0 P Q (Fr lv ds) w := by
  refine wpIn_rangeFunc ?_
  intro fn _
  obtain ⟨rc, hrc⟩ : ∃ rc : LoopState → Option Code → Loop, rc = fun st pe => { state := st, pending := pe, fn, tmps := lv.toArray, params := ps, assign, body, defers := w.heap.size } := ⟨_, rfl⟩
  obtain ⟨D, hD⟩ : ∃ D, w.heap.size = D := ⟨_, rfl⟩
  obtain ⟨W1, hW1⟩ : ∃ W1, (w.alloc (.deferred (some []))).alloc (.loop (rc .ready none)) = W1 := ⟨_, rfl⟩
  have e2 : ∀ r, (l0 ++ [(D, .deferred (some []))]) ++ [(D + 1, r)] = l0 ++ two D r := fun r => by simp [two]
  have hsz : (w.alloc (.deferred (some []))).heap.size = D + 1 := by rw [World.size_alloc, hD]
  have hs1 : St M w0 (l0 ++ two D (.loop (rc .ready none))) W1 := by
    have h1 := (hs.alloc (.deferred (some []))).alloc (.loop (rc .ready none))
    rw [hsz, hD, e2, hW1] at h1
    exact h1
  have ht1 : Tr l0 w (l0 ++ two D (.loop (rc .ready none))) W1 := by
    have h1 := (Tr.alloc w l0 (.deferred (some []))).trans (Tr.alloc _ _ (.loop (rc .ready none)))
    rw [hsz, hD, e2, hW1] at h1
    exact h1
  have hLl : ∀ i s, (L i s).length = l0.length := fun i s => by have := congrArg List.length (hL i s); simpa using this
  have hfst : ∀ (l' : LB) (r : Obj), l'.map (·.1) = l0.map (·.1) → (l' ++ two D r).map (·.1) = (l0 ++ two D cn).map (·.1) := fun l' r h => by
    rw [List.map_append, List.map_append, h]; rfl
  have hmu : ∀ (l' : LB) (r : Obj), l'.map (·.1) = l0.map (·.1) → MuOf (l' ++ two D r) = MuL l0 D := fun l' r h => mu_congr (hfst l' r h)
  have hin : ∀ (l' : LB) (r : Obj), l'.map (·.1) = l0.map (·.1) → In A w0 (l' ++ two D r) = InL A w0 l0 D := fun l' r h => in_congr (hfst l' r h)
  refine ⟨D + 1, [⟨.collected D, #[]⟩], W1, { target := .fn (.func gf) cap, args := #[.func (.yield (D + 1)) #[] #[]] }, W1, gf, #[.func (.yield (D + 1)) #[] #[]] ++ cap, W1, ?_, ?_, ?_, ?_, fun h => (by cases h), ?_⟩
  · have h1 := run_enterLoop_outer (P := P) (w := w) fn lv.toArray ps assign body
    rw [hD] at h1
    rw [← hW1, hrc]
    simpa [FW, Fr, hD] using h1
  · simp only [resolve]
    have : (Fr lv ds).eval gO = .func (.func gf) #[] cap := by rw [Fr_eval]; exact hg
    simp only [this, Deferred.ofValue]
    simp [Act.eval]
  · intro f' _; trivial
  · simp [invoke, hcf]
  refine callsIn_FW (Calls.mono (hit D _ W1 hs1 ht1 (D + 1) (fun i W => ∃ s, St M w0 (L i s ++ two D (.loop (rc .ready none))) W ∧ F i s (InL A w0 l0 D) W)
    (fun W => ∃ c s, St M w0 (LE c s ++ two D (.loop (rc .done (some c)))) W ∧ FE c s (InL A w0 l0 D) W) ?_ ?_ ?_ ?_) ?_)
  · rintro i W W' ⟨s, h1, h2⟩ hk
    exact ⟨s, h1.call hk, hF i s _ _ _ _ (KP.call hk) h2⟩
  · rintro W W' ⟨c, s, h1, h2⟩ hk
    exact ⟨c, s, h1.call hk, hFE c s _ _ _ _ (KP.call hk) h2⟩
  · -- one round
    rintro i hi W hkW ⟨s, h1, h2⟩
    have hl : W.heap[D + 1]? = some (.loop (rc .ready none)) := (h1.own _ _ (get_two1' _ _ _)).2
    have hy := run_yield (P := P) (args := xs[i]) hl (by rw [hrc]; exact hps _ (List.getElem_mem hi))
    rw [hrc] at hy
    simp only [setPs_eq] at hy
    refine ⟨fn, _, assign, body, hy, roundIn_of_wpIn trivial ?_⟩
    have hb1 : St (MuL l0 D) W (L i s ++ two D (.loop (rc .ready none))) W := by have := h1.rebase; rw [hmu _ _ (hL i s)] at this; exact this
    have hbody' := hbody i hi s D _ (.loop (rc .busy none)) W hb1 (hF i s _ _ _ _ (by
      have := KP.start (InL A w0 l0 D) W
      refine fun b hb ha => ⟨⟨?_, .inl ha⟩, rfl⟩
      have hx : In A w0 (L i s ++ two D (.loop (rc .ready none))) b := by rw [hin _ _ (hL i s)]; exact ha
      exact hx.1) h2)
    refine wpIn_mono hbody' ?_
    intro e a1 Wa hq
    cases e with
    | normal =>
      obtain ⟨l1, q1, q2⟩ := hq
      have hl1 : Wa.heap[D + 1]? = some (.loop (rc .ready none)) := (q1.own _ _ (get_two1 _ _ _ _)).2
      have hbr := run_beginRound (P := P) hl1 (by rw [hrc])
      have erb : ({ rc .ready none with state := .busy } : Loop) = rc .busy none := by rw [hrc]
      rw [erb] at hbr
      have hs2 := q1.turnBy (.loop (rc .busy none)) (get_two1 _ _ _ _) (kept_putObj Wa (D + 1) (.loop (rc .busy none))) (World.putObj_heap_same (lt_of_some hl1))
      have ht2 := Tr.turnBy (.loop (rc .busy none)) (get_two1 (L i s) D (.loop (rc .ready none)) l1) (kept_putObj Wa (D + 1) (.loop (rc .busy none)))
      rw [set_two] at hs2 ht2
      refine ⟨_, hbr, wpIn_mono (q2 _ hs2 ht2) ?_⟩
      -- the end of a round: by whatever jump
      have fin : ∀ (l' lx : LB) (jump : Option Code) (W3 : World), l'.map (·.1) = l0.map (·.1) → St (MuL l0 D) W ((l' ++ two D (.loop (rc .busy none))) ++ lx) W3 →
          ∃ W4, (Instr.endRound (D + 1) jump).run P W3 = .ok (.bool jump.isNone) W4 ∧ Kept (MuL l0 D) W W4 ∧ St M w0 (l' ++ two D (.loop (rc (if jump.isNone then .ready else .done) jump))) W4 ∧
          KP (In (InL A w0 l0 D) W ((l' ++ two D (.loop (rc .busy none))) ++ lx)) W3 (InL A w0 l0 D) W4 := by
        intro l' lx jump W3 hl' h3
        have hl3 : W3.heap[D + 1]? = some (.loop (rc .busy none)) := (h3.own _ _ (get_two1 _ _ _ _)).2
        have he := run_endRound (P := P) jump hl3
        have ere : ({ rc .busy none with state := if jump.isNone then .ready else .done, pending := jump } : Loop) = rc (if jump.isNone then .ready else .done) jump := by rw [hrc]
        rw [ere] at he
        have hs4 := h3.turnBy (.loop (rc (if jump.isNone then .ready else .done) jump)) (get_two1 _ _ _ _) (kept_putObj W3 (D + 1) _) (World.putObj_heap_same (lt_of_some hl3))
        have ht4 := Tr.turnBy (.loop (rc (if jump.isNone then .ready else .done) jump)) (get_two1 l' D (.loop (rc .busy none)) lx) (kept_putObj W3 (D + 1) (.loop (rc (if jump.isNone then .ready else .done) jump)))
        rw [set_two] at hs4 ht4
        refine ⟨_, he, hs4.kept, ?_, ?_⟩
        · have h5 := hs4
          rw [← hmu _ (.loop (rc .ready none)) (hL i s)] at h5
          exact (h1.join h5).prefix
        · refine (KP.tr ht4).trans fun b _ hb => ⟨?_, rfl⟩
          have hx : In A w0 (l' ++ two D (.loop (rc (if jump.isNone then .ready else .done) jump))) b := ⟨off_prefix hb.1, hb.2.elim (fun h => h.2) (fun h3 => .inr (Nat.le_trans h1.kept.size h3))⟩
          rw [hin _ _ hl'] at hx
          exact hx
      intro e2 a2 W3 hq2
      cases e2 with
      | normal =>
        obtain ⟨s', lx, k1, k2⟩ := hq2
        obtain ⟨W4, f1, f2, f3, f4⟩ := fin _ lx none W3 (hL _ _) k1
        exact ⟨_, W4, f1, true, rfl, f2, s', f3, hF _ _ _ _ _ _ f4 k2⟩
      | ret =>
        obtain ⟨s', lx, k1, k2⟩ := hq2
        obtain ⟨W4, f1, f2, f3, f4⟩ := fin _ lx (some .ret) W3 (hLE _ _) k1
        exact ⟨_, W4, f1, false, rfl, f2, .ret, s', f3, hFE _ _ _ _ _ _ f4 k2⟩
      | exit id =>
        obtain ⟨s', lx, k1, k2⟩ := hq2
        obtain ⟨W4, f1, f2, f3, f4⟩ := fin _ lx (some (.exit id)) W3 (hLE _ _) k1
        exact ⟨_, W4, f1, false, rfl, f2, .exit id, s', f3, hFE _ _ _ _ _ _ f4 k2⟩
      | goto t =>
        obtain ⟨s', lx, k1, k2⟩ := hq2
        obtain ⟨W4, f1, f2, f3, f4⟩ := fin _ lx (some (.goto t)) W3 (hLE _ _) k1
        exact ⟨_, W4, f1, false, rfl, f2, .goto t, s', f3, hFE _ _ _ _ _ _ f4 k2⟩
      | panic c => exact hq2.elim
      | outgrown => exact hq2.elim
    | _ => exact hq.elim
  · refine ⟨s0, by rw [hL0]; exact hs1, ?_⟩
    have := h0 D _ W1 hs1 ht1
    rw [hin _ _ rfl] at this
    exact this
  · -- behind the loop
    rintro e W' ⟨⟨v, rfl⟩, ⟨s, h1, h2⟩ | ⟨c, s, h1, h2⟩⟩
    · have hl : W'.heap[D + 1]? = some (.loop (rc .ready none)) := (h1.own _ _ (get_two1' _ _ _)).2
      have he := run_endLoop (P := P) hl (by rw [hrc]; simp)
      have hp : (rc .ready none).pending = none := by rw [hrc]
      have hs4 := h1.turnBy (.loop { rc .ready none with state := .exhausted }) (get_two1' _ _ _) (kept_putObj W' (D + 1) _) (World.putObj_heap_same (lt_of_some hl))
      have ht4 := Tr.turnBy (.loop { rc .ready none with state := .exhausted }) (get_two1' (L xs.length s) D (.loop (rc .ready none))) (kept_putObj W' (D + 1) (.loop { rc .ready none with state := .exhausted }))
      rw [set_two'] at hs4 ht4
      obtain ⟨WX, hWX⟩ : ∃ WX, WX = W'.putObj (D + 1) (.loop { rc .ready none with state := .exhausted }) := ⟨_, rfl⟩
      rw [← hWX] at he hs4 ht4
      refine ⟨none, WX, by rw [he, hp], ?_⟩
      refine hdone s D _ _ hs4 (hF _ _ _ _ _ _ (KP.tr ht4) ?_)
      rw [hin _ _ (hL _ _)]
      exact h2
    · have hl : W'.heap[D + 1]? = some (.loop (rc .done (some c))) := (h1.own _ _ (get_two1' _ _ _)).2
      have he := run_endLoop (P := P) hl (by rw [hrc]; simp)
      have hp : (rc .done (some c)).pending = some c := by rw [hrc]
      have hs4 := h1.turnBy (.loop { rc .done (some c) with state := .exhausted }) (get_two1' _ _ _) (kept_putObj W' (D + 1) _) (World.putObj_heap_same (lt_of_some hl))
      have ht4 := Tr.turnBy (.loop { rc .done (some c) with state := .exhausted }) (get_two1' (LE c s) D (.loop (rc .done (some c)))) (kept_putObj W' (D + 1) (.loop { rc .done (some c) with state := .exhausted }))
      rw [set_two'] at hs4 ht4
      obtain ⟨WX, hWX⟩ : ∃ WX, WX = W'.putObj (D + 1) (.loop { rc .done (some c) with state := .exhausted }) := ⟨_, rfl⟩
      rw [← hWX] at he hs4 ht4
      refine ⟨some c, WX, by rw [he, hp], ?_⟩
      refine hstop c s D _ _ hs4 (hFE _ _ _ _ _ _ (KP.tr ht4) ?_)
      rw [hin _ _ (hLE _ _)]
      exact h2
end
end Go.Proofs.Ytpdpajafaifcjaa.Eng
