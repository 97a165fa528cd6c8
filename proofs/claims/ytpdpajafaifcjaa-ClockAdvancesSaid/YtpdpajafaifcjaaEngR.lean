/- The engine's rules for a statement whose order Go leaves open. Over any program. -/
import Derived.Test.YtpdpajafaifcjaaEngD
import Derived.OrdersIn
namespace Go.Proofs.Ytpdpajafaifcjaa.Eng
open Go.RowKit

section
variable {P : Program} {ro : Option Nat} {md : Region.Mode} {ops : Array Oper} {S : World → Prop} {K : Act → World → Prop}

/-- number i waits for all others -/
def waitsAll (md : Region.Mode) (ops : Array Oper) (i : Nat) : Bool :=
  match ops[i]? with
  | none => false
  | some o => (List.range ops.size).all fun k => k == i || o.after.any fun e => Region.binds md e && e.on == k
theorem waitsAll_spec {md : Region.Mode} {ops : Array Oper} {i k : Nat} {o : Oper} (h : waitsAll md ops i = true) (hi : ops[i]? = some o) (hk : k < ops.size) (hne : k ≠ i) : ∃ e ∈ o.after, Region.binds md e = true ∧ e.on = k := by
  simp only [waitsAll, hi, List.all_eq_true, List.mem_range] at h
  have h1 := h k hk
  simp only [Bool.or_eq_true, beq_iff_eq, hne, false_or] at h1
  obtain ⟨e, he, hb⟩ := Array.any_eq_true'.1 h1
  simp only [Bool.and_eq_true, beq_iff_eq] at hb
  exact ⟨e, he, hb.1, hb.2⟩
def opStep (P : Program) (ro : Option Nat) (ops : Array Oper) (i : Nat) (K : Act → World → Prop) (a : Act) (w : World) : Prop :=
  match ops[i]? with
  | none => K a w
  | some o => Ops P ro ops [o] a w K
/-- whatever order is picked from here on; and S holds behind every operation -/
def Any (P : Program) (ro : Option Nat) (md : Region.Mode) (ops : Array Oper) (S : World → Prop) (K : Act → World → Prop) : Nat → Array Bool → Act → World → Prop
  | 0, listed, a, w => Region.ready md ops listed = [] ∧ K a w
  | fuel + 1, listed, a, w =>
    (Region.ready md ops listed = [] → K a w) ∧
    ∀ i ∈ Region.ready md ops listed, opStep P ro ops i (fun a' w' => (S w' ∨ waitsAll md ops i = true) ∧ Any P ro md ops S K fuel (listed.setIfInBounds i true) a' w') a w

theorem wpIn_change {F : Fence} {n : Nat} {o : Oper} {a : Act} {w : World} {K K' : Act → World → Prop} {Q Q' : Exit → Act → World → Prop} (hQ : ∀ c a w, ¬ Q (.panic c) a w) (hO : ∀ a w, ¬ Q .outgrown a w)
    (h : ∀ a w, K a w → K' a w) (hh : o.wpIn F n P a w K Q) : o.wpIn F n P a w K' Q' := by
  refine ⟨hh.1, ?_⟩
  have h2 := hh.2
  revert h2
  generalize (o.semAt F.round a.eval).run P w = r
  intro h2
  cases r with
  | ok n w' =>
    cases n <;> simp only [Oper.uponIn] at h2 ⊢ <;> first
      | exact h _ _ h2
      | (refine ⟨h2.1, CallsIn.mono h2.2 ?_⟩; intro e w'' he; cases e <;> first | exact h _ _ he | exact absurd he (hQ _ _ _) | (obtain ⟨_, _, h⟩ := he; exact absurd h (hO _ _)))
      | (refine ⟨h2.1, RoundIn.mono h2.2 ?_⟩; intro e w'' he; cases e <;> first | exact h _ _ he | exact absurd he (hQ _ _ _) | (obtain ⟨_, _, h⟩ := he; exact absurd h (hO _ _)))
      | (refine ⟨h2.1, RowsIn.mono h2.2 ?_⟩; intro e w'' he; exact h _ _ he)
  | halt x w' => cases x <;> simp only [Oper.uponIn] at h2 ⊢; exact absurd h2 (hQ _ _ _)
theorem Ops.mono1 {o : Oper} {a : Act} {w : World} {K K' : Act → World → Prop} (h : ∀ a w, K a w → K' a w) (hh : Ops P ro ops [o] a w K) : Ops P ro ops [o] a w K' := by
  unfold Ops wpListIn at *
  split
  · rename_i hw
    rw [if_pos hw] at hh
    exact wpIn_change (fun _ _ _ h => h) (fun _ _ h => h) (fun a w q => h a w q) hh
  · rename_i hw
    rw [if_neg hw] at hh
    exact ⟨hh.1, h _ _ hh.2⟩
theorem wpOpIn_of_ops {i : Nat} {a : Act} {w : World} {K K' : Act → World → Prop} {Q : Exit → Act → World → Prop} (h : ∀ a w, K a w → K' a w) (hh : opStep P ro ops i K a w) : wpOpIn (FW ro) 0 P ops Q i K' a w := by
  unfold opStep at hh
  unfold wpOpIn
  split
  · rename_i ho; simp only [ho] at hh; exact h _ _ hh
  · rename_i o ho
    simp only [ho] at hh
    unfold Ops wpListIn at hh
    split
    · rename_i hw
      rw [if_pos hw] at hh
      exact wpIn_change (fun _ _ _ h => h) (fun _ _ h => h) (fun a w q => h a w q) hh
    · rename_i hw
      rw [if_neg hw] at hh
      exact ⟨hh.1, h _ _ hh.2⟩
theorem any_sound {Q : Exit → Act → World → Prop} (hK : ∀ a w, K a w → Q .normal a w) : ∀ (fuel : Nat) (listed : Array Bool) (a : Act) (w : World), Any P ro md ops S K fuel listed a w → wpAnyIn (FW ro) 0 P md ops Q fuel listed a w
  | 0, _, _, _, h => ⟨h.1, hK _ _ h.2⟩
  | fuel + 1, _, _, _, h => ⟨fun h0 => hK _ _ (h.1 h0), fun i hi => wpOpIn_of_ops (fun a' w' h' => any_sound hK fuel _ a' w' h'.2) (h.2 i hi)⟩

/-- in every world that meets S the operation yields v, and does nothing else -/
def Yv (P : Program) (ops : Array Oper) (S : World → Prop) (o : Oper) (v : Value) (a : Act) : Prop :=
  (∀ c, o.op ≠ .defer c) ∧ ((Region.wanted o (yielded ops a.tmps) = true ∧ ∀ w, S w → (execOp a.eval o).run P w = .ok (.value v) w) ∨
  (Region.wanted o (yielded ops a.tmps) = false ∧ v = undef))
theorem Yv.step {i : Nat} {o : Oper} {v : Value} {a : Act} {w : World} (hi : ops[i]? = some o) (hy : Yv P ops S o v a) (hS : S w) {K : Act → World → Prop} (h : K (a.put o.dst v) w) : opStep P ro ops i K a w := by
  unfold opStep
  simp only [hi]
  obtain ⟨hd, ⟨hw, hv⟩ | ⟨hw, rfl⟩⟩ := hy
  · refine o_value hw ?_ (hv w hS) (o_nil h)
    cases ro with
    | none => rfl
    | some r => exact Oper.semAt_some r _ _ hd
  · exact o_skip hw (o_nil h)
theorem Yv.of_same {o : Oper} {v : Value} {a a' : Act} (hy : Yv P ops S o v a) (he : execOp a'.eval o = execOp a.eval o)
    (hw : Region.wanted o (yielded ops a'.tmps) = Region.wanted o (yielded ops a.tmps)) : Yv P ops S o v a' := by
  unfold Yv at *
  rw [he, hw]
  exact hy
theorem opStep_put {j : Nat} {oi oj : Oper} {v : Value} (hj : ops[j]? = some oj) (hap : oi.apart ops oj = true)
    (hsi : ∀ cs b, oi.op ≠ .select cs b) (hsj : ∀ cs b, oj.op ≠ .select cs b) (hdj : ∀ c, oj.op ≠ .defer c) {K : Act → World → Prop} {a : Act} {w : World}
    (hy : Yv P ops S oi v a) (h : opStep P ro ops j K (a.put oi.dst v) w) :
    opStep P ro ops j (fun a' w' => Yv P ops S oi v a' ∧ K (a'.put oi.dst v) w') a w := by
  obtain ⟨h1, h2, h3⟩ := Oper.apart_spec hap
  have keep : ∀ (a : Act), Yv P ops S oi v a → ∀ u, Yv P ops S oi v (a.put oj.dst u) := fun a hy u =>
    hy.of_same (execOp_put oi hsi a oj.dst u h3) (wanted_put oi a oj.dst u h3)
  have hsem : ∀ a : Act, oj.semAt ro a.eval = execOp a.eval oj := fun a => by
    cases ro with
    | none => rfl
    | some r => exact Oper.semAt_some r _ _ hdj
  unfold opStep at *
  simp only [hj] at *
  unfold Ops wpListIn at *
  rw [wanted_put oj a oi.dst v h1] at h
  split
  · rename_i hw
    rw [if_pos hw] at h
    refine ⟨fun _ _ => trivial, ?_⟩
    have h4 := h.2
    rw [FW_round, hsem, execOp_put oj hsj a oi.dst v h1] at h4
    rw [FW_round, hsem]
    revert h4
    generalize (execOp a.eval oj).run P w = r
    intro h4
    cases r with
    | ok n w' =>
      cases n <;> simp only [Oper.uponIn] at h4 ⊢
      case value u => exact ⟨keep a hy u, by have := h4; rw [Act.put_comm a v u h2] at this; exact this⟩
      case skip => exact ⟨keep a hy _, by have := h4; rw [Act.put_comm a v undef h2] at this; exact this⟩
      case defer d =>
        refine ⟨keep { a with defers := d :: a.defers } (hy.of_same rfl rfl) _, ?_⟩
        have := h4
        rw [Act.put_defers, Act.put_comm _ v undef h2] at this
        exact this
      case enter f args =>
        refine ⟨h4.1, CallsIn.mono h4.2 fun e w'' he => ?_⟩
        cases e with
        | returned u => exact ⟨keep a hy u, by have := he; simp only at this; rw [Act.put_comm a v u h2] at this; exact this⟩
        | panicked c => exact he.elim
        | outgrown => obtain ⟨_, _, h⟩ := he; exact h.elim
      case row row args => exact ⟨h4.1, RowsIn.mono h4.2 fun u w'' he => ⟨keep a hy u, by have := he; rw [Act.put_comm a v u h2] at this; exact this⟩⟩
      case round l f t x y =>
        refine ⟨h4.1, RoundIn.mono h4.2 fun e w'' he => ?_⟩
        cases e with
        | returned u => exact ⟨keep a hy u, by have := he; simp only at this; rw [Act.put_comm a v u h2] at this; exact this⟩
        | panicked c => exact he.elim
        | outgrown => obtain ⟨_, _, h⟩ := he; exact h.elim
    | halt x w' =>
      cases x <;> simp only [Oper.uponIn] at h4 ⊢
  · rename_i hw
    rw [if_neg hw] at h
    refine ⟨fun _ _ => trivial, keep a hy _, ?_⟩
    have := h.2
    rw [Act.put_comm a v undef h2] at this
    exact this
theorem any_first {i : Nat} {oi : Oper} {v : Value} (hi : ops[i]? = some oi) (hsel : ∀ (j : Nat) (o : Oper) cs b, ops[j]? = some o → o.op ≠ .select cs b) (hdef : ∀ (j : Nat) (o : Oper) c, ops[j]? = some o → o.op ≠ .defer c) :
    ∀ (fuel : Nat) (listed : Array Bool) (a : Act) (w : World),
      (∀ j oj, ops[j]? = some oj → j ≠ i → listed.getD j true = false → (∀ e ∈ oj.after, Region.binds md e = true → e.on ≠ i) → oi.apart ops oj = true) →
      i ∈ Region.ready md ops listed → Yv P ops S oi v a → S w →
      Any P ro md ops S K fuel (listed.setIfInBounds i true) (a.put oi.dst v) w → Any P ro md ops S K (fuel + 1) listed a w := by
  intro fuel
  induction fuel with
  | zero =>
    intro listed a w _ hr hy hS H
    refine ⟨fun h => (by rw [h] at hr; cases hr), fun j hj => ?_⟩
    by_cases hji : j = i
    · subst hji; exact hy.step hi hS ⟨.inl hS, H⟩
    · have := ready_mono hj hji
      rw [H.1] at this
      cases this
  | succ fuel ih =>
    intro listed a w hfree hr hy hS H
    refine ⟨fun h => (by rw [h] at hr; cases hr), fun j hj => ?_⟩
    by_cases hji : j = i
    · subst hji; exact hy.step hi hS ⟨.inl hS, H⟩
    · have h1 := H.2 j (ready_mono hj hji)
      obtain ⟨hjun, oj, hoj, hall⟩ := mem_ready.1 hj
      have hnot : ∀ e ∈ oj.after, Region.binds md e = true → e.on ≠ i := fun e he hb heq => by
        have h1 := hall e he hb
        have h0 := (mem_ready.1 hr).1
        rw [heq] at h1
        rcases Nat.lt_or_ge i listed.size with h' | h'
        · simp [h'] at h0 h1; rw [h0] at h1; cases h1
        · simp [Array.getElem?_eq_none h'] at h1
      have h2 := opStep_put hoj (hfree j oj hoj hji hjun hnot) (fun cs b => hsel i oi cs b hi) (fun cs b => hsel j oj cs b hoj) (fun c => hdef j oj c hoj) hy h1
      have hfree' : ∀ k ok, ops[k]? = some ok → k ≠ i → (listed.setIfInBounds j true).getD k true = false →
          (∀ e ∈ ok.after, Region.binds md e = true → e.on ≠ i) → oi.apart ops ok = true := fun k ok hk hki hun hno => by
        refine hfree k ok hk hki ?_ hno
        by_cases hjk : j = k
        · subst hjk; exact hjun
        · rw [getD_set_ne true hjk] at hun; exact hun
      have hri := ready_mono hr (Ne.symm hji)
      have hil : i < ops.size := (Array.getElem?_eq_some_iff.1 hi).1
      unfold opStep at h2 ⊢
      simp only [hoj] at h2 ⊢
      refine Ops.mono1 (fun a' w' h3 => ?_) h2
      have hS' : S w' := by
        rcases h3.2.1 with h | h
        · exact h
        · obtain ⟨e, he, hb, heq⟩ := waitsAll_spec h hoj hil (Ne.symm hji)
          exact absurd heq (hnot e he hb)
      refine ⟨.inl hS', ih (listed.setIfInBounds j true) a' w' hfree' hri h3.1 hS' ?_⟩
      have h5 := h3.2.2
      rw [Array.setIfInBounds_comm _ _ (Ne.symm hji)] at h5
      exact h5

/-! the moves -/
def noDefer (ops : Array Oper) : Bool := ops.all fun o => match o.op with | .select .. => false | .defer _ => false | _ => true
theorem noDefer_spec (h : noDefer ops = true) (j : Nat) (o : Oper) (c : Call) (ho : ops[j]? = some o) : o.op ≠ .defer c := fun he => by
  have h1 := Array.all_eq_true.1 h j (Array.getElem?_eq_some_iff.1 ho).1
  rw [(Array.getElem?_eq_some_iff.1 ho).2, he] at h1
  cases h1
theorem noDefer_sel (h : noDefer ops = true) (j : Nat) (o : Oper) (cs : Array SelectCase) (b : Bool) (ho : ops[j]? = some o) : o.op ≠ .select cs b := fun he => by
  have h1 := Array.all_eq_true.1 h j (Array.getElem?_eq_some_iff.1 ho).1
  rw [(Array.getElem?_eq_some_iff.1 ho).2, he] at h1
  cases h1
variable {l : List Value} {ds : List Deferred} {w : World}
/-- may number i be taken first? -/
def mayTake (ops : Array Oper) (listed : Array Bool) (i : Nat) : Bool := noDefer ops && Region.free .any ops listed i && (Region.ready .any ops listed).contains i
theorem d_take {fuel : Nat} {listed : Array Bool} (i : Nat) {oi : Oper} {v : Value} (hi : ops[i]? = some oi) (hm : mayTake ops listed i = true) (hg : wt ops l oi.guard = true) (hS : S w)
    (hy : ∀ w, S w → (execOp (ev l) oi).run P w = .ok (.value v) w)
    (h : Any P ro .any ops S K fuel (listed.setIfInBounds i true) (Fr (setD l oi.dst v) ds) w) : Any P ro .any ops S K (fuel + 1) listed (Fr l ds) w := by
  simp only [mayTake, Bool.and_eq_true] at hm
  refine any_first hi (noDefer_sel hm.1.1) (noDefer_spec hm.1.1) fuel listed _ w (Region.free_spec hi hm.1.2) (by simpa using hm.2) (v := v) ?_ hS (by rw [Fr_put]; exact h)
  refine ⟨fun c => noDefer_spec hm.1.1 i oi c hi, .inl ⟨wanted_Fr hg, ?_⟩⟩
  rw [show (Fr l ds).eval = ev l from funext (Fr_eval l ds)]
  exact hy
theorem d_takeS {fuel : Nat} {listed : Array Bool} (i : Nat) {oi : Oper} (hi : ops[i]? = some oi) (hm : mayTake ops listed i = true) (hg : wt ops l oi.guard = false) (hS : S w)
    (h : Any P ro .any ops S K fuel (listed.setIfInBounds i true) (Fr (setD l oi.dst undef) ds) w) : Any P ro .any ops S K (fuel + 1) listed (Fr l ds) w := by
  simp only [mayTake, Bool.and_eq_true] at hm
  refine any_first hi (noDefer_sel hm.1.1) (noDefer_spec hm.1.1) fuel listed _ w (Region.free_spec hi hm.1.2) (by simpa using hm.2) (v := undef) ?_ hS (by rw [Fr_put]; exact h)
  exact ⟨fun c => noDefer_spec hm.1.1 i oi c hi, .inr ⟨wanted_Fr hg, rfl⟩⟩
/-- number i alone may come up -/
theorem d_step {fuel : Nat} {listed : Array Bool} {a : Act} (i : Nat) {o : Oper} (hr : Region.ready .any ops listed = [i]) (hi : ops[i]? = some o)
    (h : Ops P ro ops [o] a w fun a' w' => S w' ∧ Any P ro .any ops S K fuel (listed.setIfInBounds i true) a' w') : Any P ro .any ops S K (fuel + 1) listed a w := by
  refine ⟨fun h0 => (by rw [hr] at h0; cases h0), fun j hj => ?_⟩
  rw [hr] at hj
  simp only [List.mem_singleton] at hj
  subst hj
  unfold opStep
  simp only [hi]
  exact Ops.mono1 (fun a' w' h => ⟨.inl h.1, h.2⟩) h
theorem d_step2 {fuel : Nat} {listed : Array Bool} {a : Act} (i j : Nat) {o u : Oper} (hr : Region.ready .any ops listed = [i, j]) (hi : ops[i]? = some o) (hj : ops[j]? = some u)
    (h : Ops P ro ops [o] a w fun a' w' => S w' ∧ Any P ro .any ops S K fuel (listed.setIfInBounds i true) a' w')
    (h' : Ops P ro ops [u] a w fun a' w' => S w' ∧ Any P ro .any ops S K fuel (listed.setIfInBounds j true) a' w') : Any P ro .any ops S K (fuel + 1) listed a w := by
  refine ⟨fun h0 => (by rw [hr] at h0; cases h0), fun k hk => ?_⟩
  rw [hr] at hk
  simp only [List.mem_cons, List.not_mem_nil, or_false] at hk
  rcases hk with rfl | rfl
  · unfold opStep
    simp only [hi]
    exact Ops.mono1 (fun a' w' h => ⟨.inl h.1, h.2⟩) h
  · unfold opStep
    simp only [hj]
    exact Ops.mono1 (fun a' w' h => ⟨.inl h.1, h.2⟩) h'
/-- the last one, which waits for all others -/
theorem d_last {listed : Array Bool} {a : Act} (i : Nat) {o : Oper} (hr : Region.ready .any ops listed = [i]) (hi : ops[i]? = some o) (hw : waitsAll .any ops i = true) (hn : Region.ready .any ops (listed.setIfInBounds i true) = [])
    {fuel : Nat} (h : Ops P ro ops [o] a w K) : Any P ro .any ops S K (fuel + 1) listed a w := by
  refine ⟨fun h0 => (by rw [hr] at h0; cases h0), fun j hj => ?_⟩
  rw [hr] at hj
  simp only [List.mem_singleton] at hj
  subst hj
  unfold opStep
  simp only [hi]
  refine Ops.mono1 (fun a' w' h => ⟨.inr hw, ?_⟩) h
  cases fuel with
  | zero => exact ⟨hn, h⟩
  | succ n => exact ⟨fun _ => h, by rw [hn]; simp⟩
theorem d_done {listed : Array Bool} {a : Act} (hr : Region.ready .any ops listed = []) (h : K a w) : ∀ {fuel : Nat}, Any P ro .any ops S K fuel listed a w
  | 0 => ⟨hr, h⟩
  | _ + 1 => ⟨fun _ => h, by rw [hr]; simp⟩
/-- the beginning; w': the world behind the draw -/
theorem c_regionD (S : World → World → Prop) {id : Nat} {lo : List Oper} {Q : Exit → Act → World → Prop} {a : Act} (hm : P.follows .mixedOrders = true) {n : Nat} (hn : lo.length = n)
    (h : ∀ K : Act → World → Prop, (∀ a w, Q .normal a w → K a w) → ∀ w', Kept No w w' → Any P ro .any lo.toArray (S w') K n (Array.replicate n false) a w') : (Code.region id lo.toArray true).wpIn (FW ro) 0 P Q a w := by
  subst hn
  refine wpIn_region_any hm (any_sound (S := S { w with drawn := w.drawn + 1 }) (K := Q .normal) (fun _ _ h => h) _ _ _ _ ?_)
  have := h (Q .normal) (fun _ _ h => h) { w with drawn := w.drawn + 1 } ⟨rfl, rfl, rfl, Nat.le_refl _, fun _ _ _ => rfl⟩
  simpa using this
end
end Go.Proofs.Ytpdpajafaifcjaa.Eng
