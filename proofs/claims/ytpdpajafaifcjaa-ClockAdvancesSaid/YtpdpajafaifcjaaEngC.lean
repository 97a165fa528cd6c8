/- The engine's rules of control: a function's entry and end, tests, blocks, loops, labels. Over any program. -/
import Derived.Test.YtpdpajafaifcjaaEngB
namespace Go.Proofs.Ytpdpajafaifcjaa.Eng
open Go.RowKit

section
variable {P : Program} {ro : Option Nat} {Q : Exit → Act → World → Prop} {a : Act} {w : World} {l : List Value} {ds : List Deferred}

/-- what is asked of a function's end: the marks of its ranges over functions are come to, one by one; then its results -/
def Lv (P : Program) (fn : Func) (tmps : Array Value) (R : Value → World → Prop) : List Deferred → World → Prop
  | [], w => ∃ v, (results fn tmps).run P w = .ok v w ∧ R v w
  | d :: ds, w => ∃ D w', d.target = .collected D ∧ (Instr.takeDeferred D).run P w = .ok [] w' ∧ Lv P fn tmps R ds w'
def Ex (P : Program) (fn : Func) (R : Value → World → Prop) : Exit → Act → World → Prop
  | .normal, a, w | .ret, a, w => Lv P fn a.tmps R a.defers w
  | _, _, _ => False
theorem leaves_of_Lv {fn : Func} {tmps : Array Value} {R : Value → World → Prop} : ∀ {ds : List Deferred} {w : World}, Lv P fn tmps R ds w →
    LeavesInM (FW none) 0 P fn tmps (fun e w' => ∃ v, e = .returned v ∧ R v w') ds .returning w
  | [], _, h => by
    obtain ⟨v, h1, h2⟩ := h
    exact ⟨v, h1, v, rfl, h2⟩
  | d :: ds, _, h => by
    obtain ⟨D, w', h1, h2, h3⟩ := h
    exact ⟨by simp, .inl ⟨D, w', h1, h2, leaves_of_Lv h3⟩⟩
/-- an empty slot -/
abbrev u_ : Value := undef
theorem e_enter {M : Nat → Prop} {f : FuncId} {fn : Func} {c : Code} {args : Array Value} {R : Value → World → Prop} (hf : P.funcs[f]? = some fn) (hb : fn.body = some c) {n : Nat} (hn : fn.ntmps = n) {lv : List Value} (hl : args.toList ++ List.replicate (n - args.size) undef = lv)
    (h : c.wpIn (FW none) 0 P (Ex P fn fun v w' => Kept M w w' ∧ R v w') (Fr lv []) w) : Ok P M f args w R := by
  subst hl
  have h1 := callsIn_of_wp_marks (F := FW none) (n := 0) (R := fun e w' => ∃ v, e = .returned v ∧ Kept M w w' ∧ R v w') hf hb trivial (by
    have e : (Fr (args.toList ++ List.replicate (n - args.size) undef) []) = { tmps := args ++ Array.replicate (fn.ntmps - args.size) undef, defers := [] } := by
      unfold Fr; rw [hn]; congr 1; apply Array.toList_inj.1; simp
    rw [← e]
    refine wpIn_mono h fun e a w q => ?_
    cases e with
    | normal => exact leaves_of_Lv q
    | ret => exact leaves_of_Lv q
    | _ => exact q.elim)
  exact callsIn_wide.1 h1

theorem c_skip (h : Q .normal a w) : Code.skip.wpIn (FW ro) 0 P Q a w := wpIn_skip h
theorem c_label {i : Nat} (h : Q .normal a w) : (Code.label i).wpIn (FW ro) 0 P Q a w := wpIn_label h
theorem c_ret (h : Q .ret a w) : Code.ret.wpIn (FW ro) 0 P Q a w := wpIn_ret h
theorem c_exit {i : Nat} (h : Q (.exit i) a w) : (Code.exit i).wpIn (FW ro) 0 P Q a w := wpIn_exit h
theorem c_goto {i : Nat} (h : Q (.goto i) a w) : (Code.goto i).wpIn (FW ro) 0 P Q a w := wpIn_goto h
theorem c_block {i : Nat} {c : Code} (h : c.wpIn (FW ro) 0 P (Exit.inBlock i Q) a w) : (Code.block i c).wpIn (FW ro) 0 P Q a w := wpIn_block h
theorem c_true {c : Operand} {x y : Code} (hc : ev l c = .bool true) (h : x.wpIn (FW ro) 0 P Q (Fr l ds) w) : (Code.cond c x y).wpIn (FW ro) 0 P Q (Fr l ds) w :=
  wpIn_cond_true (by rw [Fr_eval]; exact hc) h
theorem c_false {c : Operand} {x y : Code} (hc : ev l c = .bool false) (h : y.wpIn (FW ro) 0 P Q (Fr l ds) w) : (Code.cond c x y).wpIn (FW ro) 0 P Q (Fr l ds) w :=
  wpIn_cond_false (by rw [Fr_eval]; exact hc) h
theorem c_if {c : Operand} {x y : Code} {b : Bool} (hc : ev l c = .bool b) (ht : b = true → x.wpIn (FW ro) 0 P Q (Fr l ds) w) (hf : b = false → y.wpIn (FW ro) 0 P Q (Fr l ds) w) : (Code.cond c x y).wpIn (FW ro) 0 P Q (Fr l ds) w :=
  wpIn_cond_split (by rw [Fr_eval]; exact hc) ht hf
theorem c_loop {c : Code} (I : Act → World → Prop) (μ : Act → World → Nat) (h0 : I a w)
    (round : ∀ a w, I a w → c.wpIn (FW ro) 0 P (Exit.then (fun a' w' => I a' w' ∧ μ a' w' < μ a w) Q) a w) : (Code.loop c).wpIn (FW ro) 0 P Q a w := wpIn_loop I μ h0 round
/-- a loop, by a number that every round lowers -/
theorem c_loopN {c : Code} (I : Nat → Act → World → Prop) (n : Nat) (h0 : I n a w)
    (round : ∀ n a w, I n a w → c.wpIn (FW ro) 0 P (Exit.then (fun a' w' => ∃ m, m < n ∧ I m a' w') Q) a w) : (Code.loop c).wpIn (FW ro) 0 P Q a w := by
  intro b k cs hro hb hr
  have key : ∀ n a w, I n a w → ∃ e a' w', Q e a' w' ∧ ArrivesIn (Machine.fenced P (FW ro)) P (lone (b.atR a (.code c :: .inLoop c :: k)) cs w) b k cs e a' w' := by
    intro n
    induction n using Nat.strongRecOn with
    | _ n ih =>
      intro a w hI
      obtain ⟨e, a₁, w₁, hq, harr⟩ := round n a w hI b (.inLoop c :: k) cs hro hb hr
      cases e with
      | normal =>
        obtain ⟨m, hlt, hI₁⟩ := hq
        obtain ⟨e₂, a₂, w₂, hq₂, harr₂⟩ := ih m hlt a₁ w₁ hI₁
        exact ⟨e₂, a₂, w₂, hq₂, .of_steps (StepsIn.trans harr (.one (fenced_calm hb hr rfl) stepR_inLoop)) harr₂⟩
      | exit id => exact ⟨_, a₁, w₁, hq, .pass (x := .inLoop c) rfl (fun _ _ => .inl (by simp)) harr⟩
      | goto l => exact ⟨_, a₁, w₁, hq, .pass (x := .inLoop c) rfl (fun _ _ => .inl (by simp)) harr⟩
      | ret => exact ⟨_, a₁, w₁, hq, .pass (x := .inLoop c) rfl (fun _ _ => .inl (by simp)) harr⟩
      | panic ch => exact ⟨_, a₁, w₁, hq, .pass (x := .inLoop c) rfl (fun _ _ => .inl (by simp)) harr⟩
      | outgrown => exact ⟨_, a₁, w₁, hq, .pass (x := .inLoop c) rfl (fun _ _ => .inl (by simp)) harr⟩
  obtain ⟨e, a', w', hq, harr⟩ := key n a w h0
  exact ⟨e, a', w', hq, .of_steps (.one (fenced_calm hb hr rfl) stepR_loop) harr⟩

theorem stepR_scope {b : Frame} {k : List Item} {cs : List Frame} {c : Code} : step P (lone (b.atR a (.code (.scope c) :: k)) cs w) = .next (lone (b.atR a (.code c :: .inScope c :: k)) cs w) :=
  step_lone_go (by simp [stepG, stepG.exec, Frame.atR])
theorem stepR_inScope {b : Frame} {k : List Item} {cs : List Frame} {c : Code} : step P (lone (b.atR a (.inScope c :: k)) cs w) = .next (lone (b.atR a k) cs w) :=
  step_lone_go (by simp [stepG, stepG.exec, Frame.atR])
/-- what is asked of a scope's body that jumps to no label -/
def NoGoto (Q : Exit → Act → World → Prop) : Exit → Act → World → Prop
  | .goto _, _, _ => False
  | e, a, w => Q e a w
/-- what is asked of a scope's body that may jump, to labels behind -/
def Jumps (J : Nat → Act → World → Prop) (Q : Exit → Act → World → Prop) : Exit → Act → World → Prop
  | .goto i, a, w => J i a w
  | e, a, w => Q e a w
theorem arrives_scope {b : Frame} {k : List Item} {cs : List Frame} {c : Code} {m : Machine} {e : Exit} {a' : Act} {w' : World} (hb : (FW ro).fn b.fn) (hr : (FW ro).room (cs.length + 1 + 0)) (he : ∀ i, e ≠ .goto i)
    (h : ArrivesIn (Machine.fenced P (FW ro)) P m b (.inScope c :: k) cs e a' w') : ArrivesIn (Machine.fenced P (FW ro)) P m b k cs e a' w' := by
  cases e with
  | normal => exact StepsIn.trans h (.one (fenced_calm hb hr rfl) stepR_inScope)
  | exit id => exact ⟨fun k' hk => h.1 k' (by simp [exitTo, hk]), fun hr' hk => h.2 hr' (by simp [exitTo, hk])⟩
  | goto i => exact absurd rfl (he i)
  | ret => exact h
  | panic ch => exact h
  | outgrown => exact h
theorem c_scope {c : Code} (h : c.wpIn (FW ro) 0 P (NoGoto Q) a w) : (Code.scope c).wpIn (FW ro) 0 P Q a w := by
  intro b k cs hro hb hr
  obtain ⟨e, a₁, w₁, hq, harr⟩ := h b (.inScope c :: k) cs hro hb hr
  have h0 : (lone (b.atR a (.code (.scope c) :: k)) cs w).fenced P (FW ro) := fenced_calm hb hr rfl
  refine ⟨e, a₁, w₁, ?_, .of_steps (.one h0 stepR_scope) (arrives_scope hb hr (fun i hi => by subst hi; exact hq.elim) harr)⟩
  cases e <;> first | exact hq | exact hq.elim
theorem c_scopeJ {c : Code} (J : Nat → Act → World → Prop) (hJ : ∀ i a w, J i a w → ∃ rest, findLabel c i = some rest ∧ rest.wpIn (FW ro) 0 P (NoGoto Q) a w)
    (h : c.wpIn (FW ro) 0 P (Jumps J Q) a w) : (Code.scope c).wpIn (FW ro) 0 P Q a w := by
  intro b k cs hro hb hr
  obtain ⟨e, a₁, w₁, hq, harr⟩ := h b (.inScope c :: k) cs hro hb hr
  have h0 : (lone (b.atR a (.code (.scope c) :: k)) cs w).fenced P (FW ro) := fenced_calm hb hr rfl
  by_cases hg : ∃ i, e = .goto i
  · obtain ⟨i, rfl⟩ := hg
    obtain ⟨rest, hf, hrest⟩ := hJ i a₁ w₁ hq
    obtain ⟨e₂, a₂, w₂, hq₂, harr₂⟩ := hrest b (.inScope c :: k) cs hro hb hr
    have h1 := harr.1 (.code rest :: .inScope c :: k) (by simp [gotoIn, hf])
    refine ⟨e₂, a₂, w₂, ?_, .of_steps (.one h0 stepR_scope) (.of_steps h1 (arrives_scope hb hr (fun i hi => by subst hi; exact hq₂.elim) harr₂))⟩
    cases e₂ <;> first | exact hq₂ | exact hq₂.elim
  · refine ⟨e, a₁, w₁, ?_, .of_steps (.one h0 stepR_scope) (arrives_scope hb hr (fun i hi => hg ⟨i, hi⟩) harr)⟩
    cases e <;> first | exact hq | exact absurd ⟨_, rfl⟩ hg

/-! a function's end -/
theorem ex_ret0 {fn : Func} {R : Value → World → Prop} {v : Value} (hr : (results fn l.toArray).run P w = .ok v w) (h : R v w) : Ex P fn R .ret (Fr l []) w := ⟨v, hr, h⟩
theorem ex_end0 {fn : Func} {R : Value → World → Prop} {v : Value} (hr : (results fn l.toArray).run P w = .ok v w) (h : R v w) : Ex P fn R .normal (Fr l []) w := ⟨v, hr, h⟩
end
end Go.Proofs.Ytpdpajafaifcjaa.Eng
