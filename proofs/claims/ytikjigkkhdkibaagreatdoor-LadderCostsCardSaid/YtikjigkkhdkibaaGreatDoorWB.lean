/- YtikjigkkhdkibaaGreatDoorWB: a part of the proofs of given statements of this seat; no condition beyond them. -/
import Derived.Test.YtikjigkkhdkibaaGreatDoorWA
import Derived.ArgAppend
import Derived.Laws.MakeOwn
import Derived.Laws.IdiomStrings
import Derived.Lib.SliceRun
import Derived.ProofKit
import Derived.OpenShut
import Derived.Deep.SlicePairs
import Derived.Stop.LaidErr
set_option linter.unusedVariables false
/- Rules: slices that are made, appended to, copied. Over any program. -/
namespace Go.Proofs.YtikjigkkhdkibaaGreatDoor.W
open Go.RowKit
variable {P : Program} {nt : Nat} {ro : Option Nat} {env env' : Env} {ds : List Deferred} {lb lb' : LBs} {Φ Φ' : Facts} {ω : Amb} {A : Nat → Prop} {w : World} {E : Operand → Value}
variable {d : Option Tmp} {ty : TypeId} {pos : String} {af : Array Edge} {g : Option (Nat × Bool)} {kp : Kp} {q : SV → LBs → Facts → Prop}
theorem oneS_flat {α : Type} {enc : α → List SV} {k : Nat} {L : List α} (h : ∀ x ∈ L, okE enc k x) : ∀ v ∈ flat enc L, one v = true := by
  intro v hv
  obtain ⟨x, hx, hv⟩ := List.mem_flatMap.1 hv
  exact oneS_ok (h x hx).2 v hv
theorem flat_append {α : Type} {enc : α → List SV} (L L' : List α) : flat enc (L ++ L') = flat enc L ++ flat enc L' := by simp [flat]
/-- a slice's cells, as 'append' and 'copy' read them -/
theorem Sl.first {k n c : Nat} {p : Option Addr} {C : List Value} (h : Sl A w k p n c C) {m : Nat} (hm : m ≤ n) : (Builtin.firstCells k m (.slice p n c)).run P w = .ok (C.take (m * k)).toArray w := by
  rcases Nat.eq_zero_or_pos m with h0 | h0
  · subst h0
    cases p with
    | none => simp [Builtin.firstCells]
    | some a => simp [Builtin.firstCells, loadCells, loadCellsFrom]
  · rcases h.at_ with h1 | ⟨b, off, cs, t, fz, h1, h2, h3, h4, h5⟩
    · omega
    · subst h1
      have hmk : m * k ≤ n * k := Nat.mul_le_mul_right _ hm
      have := run_loadCells (P := P) (off := off) (n := m * k) h3 (by omega)
      simp only [Builtin.firstCells, this]
      rw [← h5, List.take_take, Nat.min_eq_left hmk]
/-- the world with one more draw -/
theorem kept_drew (w : World) : Kept No w w.drew := ⟨rfl, rfl, rfl, Nat.le_refl _, fun _ _ _ => rfl⟩
theorem x_append {x y : Operand} {t u : TypeId} {xv yv : Value} {v : Value} {w' : World} (hx : E x = xv) (hy : E y = yv) (hr : (Builtin.append_ #[t, u] ty #[xv, yv]).run P w = .ok v w') :
    (execOp E ⟨d, .call ⟨.builtin .append, #[x, y], #[t, u]⟩, ty, pos, af, g⟩).run P w = .ok (.value v) w' :=
  x_builtin rfl (by simp [builtin, hx, hy, hr, Result.andThen])
/-- an append that must grow -/
theorem run_append_gen {t u e f : TypeId} {i : TypeInfo} {z : Value} (ht : P.underlying t = some (.slice e)) (hu : P.underlying u = some (.slice f)) (hi : P.info? e = some i) (hz : i.zero = some z)
    {p p2 : Option Addr} {n c n2 c2 : Nat} {C C2 : List Value} (hs : Sl A w i.size p n c C) {A' : Nat → Prop} (hx : Sl A' w i.size p2 n2 c2 C2) (hg : c < n + n2) (hb : (n + n2) * i.bytes ≤ 140737488355328) (hl : n + n2 ≤ 9223372036854775807) :
    (Builtin.append_ #[t, u] ty #[.slice p n c, .slice p2 n2 c2]).run P w = .ok (.slice (some ⟨w.heap.size, 0, none⟩) (n + n2) (grownCap w (n + n2) c e))
        (w.drew.alloc (.cells (C.toArray ++ C2.toArray ++ Builtin.zeroCells z.cells (grownCap w (n + n2) c e - (n + n2))) e)) := by
  have hn : ¬ (n + n2 ≤ c) := by omega
  have h63 : ¬ (9223372036854775807 < ((n : Int) + (n2 : Int))) := by omega
  have h48 : ¬ (281474976710656 < Builtin.nextslicecap (n + n2) c * i.bytes) := by
    have := growslice_fits hg hb; omega
  have kd : KP A w A w.drew := KP.call (kept_drew w)
  have kd' : KP A' w A' w.drew := KP.call (kept_drew w)
  have hf := (hs.kp kd).first (P := P) (Nat.le_refl _)
  have hf2 := (hx.kp kd').first (P := P) (Nat.le_refl _)
  rw [List.take_of_length_le (by rw [hs.len]; exact Nat.le_refl _)] at hf
  rw [List.take_of_length_le (by rw [hx.len]; exact Nat.le_refl _)] at hf2
  simp [Builtin.append_, tUnd ht, tUnd hu, Go.sizeOf, typeInfo, zeroValue, hi, hz, Builtin.lenOf, hn, h63, h48, Question.forced, hf, hf2, newRow, grownCap, program, Sem.run, Result.andThen]
  rw [← Array.append_assoc]
  simp
/-- an append for which there is room -/
theorem run_append_room {t u e f : TypeId} {i : TypeInfo} (ht : P.underlying t = some (.slice e)) (hu : P.underlying u = some (.slice f)) (hi : P.info? e = some i)
    {p p2 : Option Addr} {n c n2 c2 : Nat} {C2 : List Value} {A' : Nat → Prop} (hx : Sl A' w i.size p2 n2 c2 C2) (hg : n + n2 ≤ c) {w' : World} (hst : ∀ a, p = some a → (storeCells (a.add (n * i.size)) C2 0).run P w = .ok () w') (hno : p = none → w' = w) :
    (Builtin.append_ #[t, u] ty #[.slice p n c, .slice p2 n2 c2]).run P w = .ok (.slice p (n + n2) c) w' := by
  have hf2 := hx.first (P := P) (Nat.le_refl _)
  rw [List.take_of_length_le (by rw [hx.len]; exact Nat.le_refl _)] at hf2
  cases p with
  | none =>
    obtain rfl := hno rfl
    simp [Builtin.append_, tUnd ht, tUnd hu, Go.sizeOf, typeInfo, hi, Builtin.lenOf, hg, hf2, program, Sem.run, Result.andThen]
  | some a => simp [Builtin.append_, tUnd ht, tUnd hu, Go.sizeOf, typeInfo, hi, Builtin.lenOf, hg, hf2, hst a rfl, program, Sem.run, Result.andThen]
/-- a slice whose elements are known -/
inductive SlV {α : Type} (Φ : Facts) (enc : α → List SV) (k : Nat) : Option Addr → Nat → Nat → List α → Prop where
  | fact {p : Option Addr} {n c : Nat} {L : List α} : slF enc k p n c L ∈ Φ → SlV Φ enc k p n c L
  | nil : SlV Φ enc k none 0 0 []
theorem SlV.ok {α : Type} {enc : α → List SV} {k n c : Nat} {p : Option Addr} {L : List α} (h : SlV Φ enc k p n c L) (hh : Hold Φ A w) : (∀ x ∈ L, okE enc k x) ∧ L.length = n ∧ Sl A w k p n c (flat enc L) := by
  cases h with
  | fact h => exact hh _ h
  | nil => exact ⟨by simp, rfl, Sl.nil A w k⟩
/-- the types of an append -/
def appTy (P : Program) (t u : TypeId) (q : TypeId → Nat → Nat → Prop) : Prop :=
  match P.underlying t, P.underlying u with
  | some (.slice e), some (.slice _) => match P.info? e with
    | some i => match i.zero with
      | some z => match Nat.beq z.cells.size i.size with
        | true => q e i.size i.bytes
        | false => False
      | none => False
    | none => False
  | _, _ => False
theorem appTy_ok {t u : TypeId} {q : TypeId → Nat → Nat → Prop} (h : appTy P t u q) : ∃ e f i z, P.underlying t = some (.slice e) ∧ P.underlying u = some (.slice f) ∧ P.info? e = some i ∧ i.zero = some z ∧ z.cells.size = i.size ∧ q e i.size i.bytes := by
  unfold appTy at h
  split at h
  · rename_i e f h1 h2
    split at h
    · rename_i i hi
      split at h
      · rename_i z hz
        split at h
        · rename_i hb
          exact ⟨e, f, i, z, h1, h2, hi, hz, Nat.eq_of_beq_eq_true hb, h⟩
        · exact h.elim
      · exact h.elim
    · exact h.elim
  · exact h.elim
theorem Rel.vecSl (h : Rel P lb Φ ω w) {i b : Nat} {α : Type} {enc : α → List SV} {k n c : Nat} {t : TypeId} {p : Option Addr} {L : List α} (hi : nth lb i = some (b, .vec enc k t p n c L)) : Sl (fun _ => True) w k p n c (flat enc L) := by
  obtain ⟨g1, g2⟩ := h.vec hi
  refine ⟨by rw [flat_length (fun x hx => (g1.2.2.2.1 x hx).1), g1.1], g1.2.1, g1.2.2.1, g1.2.2.2.2.2, ?_⟩
  rcases Nat.eq_zero_or_pos c with h0 | h0
  · exact .inl (by have := g1.2.1; omega)
  · obtain ⟨arr, fz, a1, az, a2, a3⟩ := g2 (by omega)
    have hle : n * k ≤ c * k := Nat.mul_le_mul_right _ g1.2.1
    exact .inr ⟨b, 0, arr, t, fz, g1.2.2.2.2.1 (by omega), trivial, a1, by omega, by simpa using a3⟩
theorem Rel.realloc (h : Rel P lb Φ ω w) {o : Obj} {j : Nat} {x y : Nat × OB} (hj : nth lb j = some y) (hn : ∀ lp xs s, x.2 ≠ .seq lp xs s) (hb : (ent x).b = w.heap.size) (hx : (ent x).pd o) (hp : (ent x).pure) : Rel P (lb.set j x) Φ ω (w.alloc o) := by
  have hg := sem_get hj
  refine h.move ?_ ?_ ?_ (Kept.alloc _ _ _) ?_
  · rw [sem_set]; exact h.st.realloc o hg hb hx hp
  · rw [sem_set]; exact h.hold.kp (KP.trω (Tr.realloc w _ o hg hb))
  · rw [sem_set]; exact Tr.realloc w _ o hg hb
  · intro b' lp xs s hi
    rcases nth_set hj hi with hi | hi
    · exact hi
    · exact absurd (congrArg Prod.snd hi).symm (hn lp xs s)
/-- what an append onto a row of one's own is to be shown -/
structure AppV (kp : Kp) (i : Nat) {α : Type} (enc : α → List SV) (k : Nat) (e : TypeId) (n : Nat) (L : List α) (bytes : Nat) (p2 : Option Addr) (n2 c2 : Nat) (lb : LBs) (Φ : Facts) (q : SV → LBs → Facts → Prop) : Prop where
  h : okKp kp i = true ∧ ∃ L2, SlV Φ enc k p2 n2 c2 L2 ∧ (n + n2) * bytes ≤ 140737488355328 ∧ n + n2 ≤ 9223372036854775807 ∧
    ∀ b p c, n + n2 ≤ c → setK lb i (b, .vec enc k e p (n + n2) c (L ++ L2)) fun lb => q (.vec i p (n + n2) c) lb Φ
theorem SemO.appendVec {x y : Operand} {t u : TypeId} (h : evS env x fun vx => evS env y fun vy => match vx, vy with
      | .vec i p n c, .raw (.slice p2 n2 c2) => appTy P t u fun e k bytes => match nth lb i with
        | some (_, .vec enc k' e' p' n' c' L) => Ob (p' = p ∧ n' = n ∧ c' = c ∧ k' = k ∧ e' = e) (AppV kp i enc k e n L bytes p2 n2 c2 lb Φ q)
        | _ => False
      | _, _ => False) : SemO P kp (.call ⟨.builtin .append, #[x, y], #[t, u]⟩) ty env lb Φ q := by
  refine ⟨fun E d pos af g ω w he hr => ?_⟩
  obtain ⟨vx, hx, hh⟩ := evS_ok he h
  clear h
  obtain ⟨vy, hy, h⟩ := evS_ok he hh
  clear hh
  split at h
  · rename_i i p n c p2 n2 c2
    obtain ⟨e, f, inf, z, h1, h2, h3, h4, h5, hh⟩ := appTy_ok h
    clear h
    split at hh
    · rename_i b0 α enc k' e' p' n' c' L hi
      obtain ⟨⟨rfl, rfl, rfl, rfl, rfl⟩, hh⟩ := hh
      obtain ⟨hokp, L2, hv, hb, hl, hq⟩ := hh.h
      obtain ⟨g1, g2⟩ := hr.vec hi
      obtain ⟨f1, f2, f3⟩ := hv.ok hr.hold
      have hg := sem_get hi
      have hok : ∀ x ∈ L ++ L2, okE enc inf.size x := fun x hx => by
        rcases List.mem_append.1 hx with hx | hx
        · exact g1.2.2.2.1 x hx
        · exact f1 x hx
      by_cases hroom : n' + n2 ≤ c'
      · rcases Nat.eq_zero_or_pos c' with hc | hc
        · -- nothing at all
          have hn0 : n' = 0 := by omega
          have hn2 : n2 = 0 := by omega
          have hL : L = [] := List.length_eq_zero_iff.1 (by rw [g1.1, hn0])
          have hL2 : L2 = [] := List.length_eq_zero_iff.1 (by rw [f2, hn2])
          have hrun := run_append_room (P := P) (ty := ty) (w := w) (p := p') h1 h2 h3 f3 hroom (w' := w) (fun a _ => by subst hL2; simp [flat, storeCells]) (fun _ => rfl)
          have hq' := hq b0 p' c' hroom
          rw [setK_eq] at hq'
          refine ⟨_, _, _, _, w, hq', x_append hx hy hrun, .inl rfl, ?_, .of (Kept.refl _ _)⟩
          subst hL hL2 hn0 hn2
          have : lb.set i (b0, .vec enc inf.size e' p' (0 + 0) c' ([] ++ [])) = lb := by
            rw [nth_eq] at hi
            simp only [Nat.add_zero, List.append_nil]
            obtain ⟨hlt, heq⟩ := List.getElem?_eq_some_iff.1 hi
            rw [← heq]
            exact List.set_getElem_self hlt
          rw [this]
          exact hr
        · obtain ⟨arr, fz, a1, az, a2, a3⟩ := g2 (by omega)
          have hp := g1.2.2.2.2.1 (by omega)
          have hlen2 := flat_length (enc := enc) (k := inf.size) (L := L2) (fun x hx => (f1 x hx).1)
          have hle : (n' + n2) * inf.size ≤ c' * inf.size := Nat.mul_le_mul_right _ hroom
          rw [Nat.add_mul] at hle
          obtain ⟨w', k1, k2, k3⟩ := run_storeCells (P := P) (flat enc L2) (n' * inf.size) 0 arr w a1 az (by rw [hlen2, f2, a2]; omega) (oneS_flat f1)
          have hrun := run_append_room (P := P) (ty := ty) (w := w) (p := p') h1 h2 h3 f3 hroom (w' := w') (fun a ha => by
            rw [hp] at ha; cases ha
            rw [addr_add, Nat.zero_add]; exact k1) (fun h => by rw [hp] at h; cases h)
          have hq' := hq b0 p' c' hroom
          rw [setK_eq] at hq'
          refine ⟨_, _, _, _, w', hq', x_append hx hy hrun, .inl rfl, ?_, .at hokp hi (show c' ≠ 0 by omega) k3⟩
          refine hr.turn hi (fun _ _ _ h => by cases h) (show c' ≠ 0 by omega) k3 rfl ⟨_, k2, _, _, rfl, ?_, ?_, ?_⟩ ?_
          · rw [List.size_toArray, upd_length _ _ _ (by rw [hlen2, f2, Array.length_toList, a2]; omega), Array.length_toList]; exact az
          · show (List.toArray _).size = c' * inf.size
            rw [List.size_toArray, upd_length _ _ _ (by rw [hlen2, f2, Array.length_toList, a2]; omega), Array.length_toList, a2]
          · show (List.toArray _).toList.take ((n' + n2) * inf.size) = flat enc (L ++ L2)
            rw [flat_append, ← a3]
            simp only [upd, Nat.add_zero]
            have hX : (arr.toList.take (n' * inf.size)).length = n' * inf.size := by rw [List.length_take, Array.length_toList, a2, Nat.min_eq_left (by omega)]
            have hY : (arr.toList.take (n' * inf.size) ++ flat enc L2).length = (n' + n2) * inf.size := by rw [List.length_append, hX, hlen2, f2, Nat.add_mul]
            rw [← hY, List.take_left]
          · exact ⟨by simp [g1.1, f2], hroom, g1.2.2.1, hok, fun _ => hp, g1.2.2.2.2.2⟩
      · -- it grows
        have hsl := hr.vecSl hi
        have hrun := run_append_gen (P := P) (ty := ty) h1 h2 h3 h4 hsl f3 (by omega) hb hl
        have hge := grownCap_ge w (n' + n2) c' e'
        have hcm : grownCap w (n' + n2) c' e' ≤ maxLen := grownCap_le_maxLen w (n' + n2) c' e' hl
        have hlenC := flat_length (enc := enc) (k := inf.size) (L := L) (fun x hx => (g1.2.2.2.1 x hx).1)
        have hlen2 := flat_length (enc := enc) (k := inf.size) (L := L2) (fun x hx => (f1 x hx).1)
        have hq' := hq w.heap.size (some ⟨w.heap.size, 0, none⟩) (grownCap w (n' + n2) c' e') hge
        rw [setK_eq] at hq'
        have hr2 := hr.call (kept_drew w)
        refine ⟨_, _, _, _, _, hq', x_append hx hy hrun, .inl rfl, ?_, .of ((kept_drew w).trans (Kept.alloc _ _ _))⟩
        refine hr2.realloc hi (fun _ _ _ h => by cases h) rfl ⟨_, _, rfl, Thaw.zero _, ?_, ?_⟩ ?_
        · simp only [Array.size_append, List.size_toArray, size_zeroCells, h5, hlenC, hlen2, f2, g1.1, ← Nat.add_mul]
          congr 1
          omega
        · have hY : (flat enc L ++ flat enc L2).length = (n' + n2) * inf.size := by rw [List.length_append, hlenC, hlen2, f2, g1.1, Nat.add_mul]
          rw [flat_append, ← hY]
          simp only [Array.toList_append, List.append_assoc]
          rw [← List.append_assoc]
          exact List.take_left
        · exact ⟨by simp [g1.1, f2], hge, hcm, hok, fun _ => rfl, fun h => by cases h⟩
    · exact hh.elim
  · exact h.elim
/-- what an append onto a slice that is full, or is to grow, is to be shown; own: it becomes a row of one's own -/
structure AppN (own : Bool) (lb : LBs) (Φ : Facts) (e : TypeId) (k bytes : Nat) (p : Option Addr) (n c : Nat) (p2 : Option Addr) (n2 c2 : Nat) (q : SV → LBs → Facts → Prop) : Prop where
  h : ∃ (α : Type) (enc : α → List SV) (L L2 : List α), SlV Φ enc k p n c L ∧ SlV Φ enc k p2 n2 c2 L2 ∧ (n + n2) * bytes ≤ 140737488355328 ∧ n + n2 ≤ 9223372036854775807 ∧
    match own with
    | true => (c < n + n2 ∨ c = 0) ∧ ∀ b p c, n + n2 ≤ c → appK lb [(b, .vec enc k e p (n + n2) c (L ++ L2))] fun lb' => lenK lb 0 fun i => q (.vec i p (n + n2) c) lb' Φ
    | false => c = n ∧ ∀ p c, n + n2 ≤ c → q (.raw (.slice p (n + n2) c)) lb (slF enc k p (n + n2) c (L ++ L2) :: Φ)
theorem SemO.appendNew (own : Bool) {x y : Operand} {t u : TypeId} (h : evS env x fun vx => evS env y fun vy => match vx, vy with
      | .raw (.slice p n c), .raw (.slice p2 n2 c2) => appTy P t u fun e k bytes => AppN own lb Φ e k bytes p n c p2 n2 c2 q
      | _, _ => False) : SemO P kp (.call ⟨.builtin .append, #[x, y], #[t, u]⟩) ty env lb Φ q := by
  refine ⟨fun E d pos af g ω w he hr => ?_⟩
  obtain ⟨vx, hx, hh⟩ := evS_ok he h
  clear h
  obtain ⟨vy, hy, h⟩ := evS_ok he hh
  clear hh
  split at h
  · rename_i p n c p2 n2 c2
    obtain ⟨e, f, inf, z, h1, h2, h3, h4, h5, hh⟩ := appTy_ok h
    clear h
    obtain ⟨α, enc, L, L2, hv1, hv2, hb, hl, hq⟩ := hh.h
    obtain ⟨e1, e2, e3⟩ := hv1.ok hr.hold
    obtain ⟨f1, f2, f3⟩ := hv2.ok hr.hold
    have hok : ∀ x ∈ L ++ L2, okE enc inf.size x := fun x hx => by
      rcases List.mem_append.1 hx with hx | hx
      · exact e1 x hx
      · exact f1 x hx
    have hlenC := flat_length (enc := enc) (k := inf.size) (L := L) (fun x hx => (e1 x hx).1)
    have hlen2 := flat_length (enc := enc) (k := inf.size) (L := L2) (fun x hx => (f1 x hx).1)
    have hY : (flat enc L ++ flat enc L2).length = (n + n2) * inf.size := by rw [List.length_append, hlenC, hlen2, f2, e2, Nat.add_mul]
    -- it grows
    have grow : c < n + n2 → ∃ c' w', n + n2 ≤ c' ∧ (Builtin.append_ #[t, u] ty #[.slice p n c, .slice p2 n2 c2]).run P w = .ok (.slice (some ⟨w.heap.size, 0, none⟩) (n + n2) c') w' ∧ Kept No w w' ∧
        Rel P (lb ++ [(w.heap.size, .vec enc inf.size e (some ⟨w.heap.size, 0, none⟩) (n + n2) c' (L ++ L2))]) Φ ω w' := by
      intro hg
      have hrun := run_append_gen (P := P) (ty := ty) h1 h2 h3 h4 e3 f3 hg hb hl
      have hge := grownCap_ge w (n + n2) c e
      have hcm : grownCap w (n + n2) c e ≤ maxLen := grownCap_le_maxLen w (n + n2) c e hl
      refine ⟨_, _, hge, hrun, (kept_drew w).trans (Kept.alloc _ _ _), ?_⟩
      have hr2 := hr.call (kept_drew w)
      refine hr2.alloc (b := .vec enc inf.size e (some ⟨w.heap.size, 0, none⟩) (n + n2) (grownCap w (n + n2) c e) (L ++ L2)) (fun _ _ _ h => by cases h) rfl ⟨_, _, rfl, Thaw.zero _, ?_, ?_⟩ ?_
      · simp only [Array.size_append, List.size_toArray, size_zeroCells, h5, hlenC, hlen2, f2, e2, ← Nat.add_mul]
        congr 1
        omega
      · rw [flat_append, ← hY]
        simp only [Array.toList_append, List.append_assoc]
        rw [← List.append_assoc]
        exact List.take_left
      · exact ⟨by simp [e2, f2], hge, hcm, hok, fun _ => rfl, fun h => by cases h⟩
    cases own with
    | true =>
      obtain ⟨hc, hq⟩ := hq
      by_cases hg : c < n + n2
      · obtain ⟨c', w', hge, hrun, hk, hrel⟩ := grow hg
        have hq' := hq w.heap.size (some ⟨w.heap.size, 0, none⟩) c' hge
        rw [appK_eq, lenK_eq] at hq'
        exact ⟨_, _, _, _, w', hq', x_append hx hy hrun, .inl rfl, hrel, .of hk⟩
      · have hc0 : c = 0 := by omega
        have hn : n = 0 := by omega
        have hn2 : n2 = 0 := by omega
        have hL : L = [] := List.length_eq_zero_iff.1 (by omega)
        have hL2 : L2 = [] := List.length_eq_zero_iff.1 (by omega)
        subst hc0 hn hn2 hL hL2
        have hrun := run_append_room (P := P) (ty := ty) (w := w) (p := p) (n := 0) (c := 0) h1 h2 h3 f3 (Nat.le_refl _) (w' := w) (fun a _ => by simp [flat, storeCells]) (fun _ => rfl)
        have hq' := hq w.heap.size p 0 (Nat.le_refl _)
        rw [appK_eq, lenK_eq] at hq'
        refine ⟨_, _, _, _, w, hq', x_append hx hy hrun, .inl rfl, ?_, .of (Kept.refl _ _)⟩
        have hb : ¬ (ent (w.heap.size, .vec enc inf.size e p 0 0 ([] : List α))).real := fun h => h rfl
        refine hr.move ?_ ?_ ?_ (Kept.refl _ _) ?_
        · rw [sem_snoc]
          refine ⟨hr.st.kept, ?_, ?_⟩
          · intro i j a b ha hb' hra hrb heq
            rcases get_snoc ha with ha1 | ⟨e1, e2⟩ <;> rcases get_snoc hb' with hb1 | ⟨e3, e4⟩
            · exact hr.st.inj i j a b ha1 hb1 hra hrb heq
            · rw [e4] at hrb; exact absurd hrb hb
            · rw [e2] at hra; exact absurd hra hb
            · rw [e1, e3]
          · intro i a ha
            rcases get_snoc ha with ha1 | ⟨e1, e2⟩
            · exact hr.st.own i a ha1
            · rw [e2]
              exact ⟨⟨rfl, Nat.le_refl _, by omega, by simp, fun h => absurd rfl h, fun _ => rfl⟩, fun h => absurd h hb⟩
        · rw [sem_snoc]
          refine hr.hold.kp fun b hlt hA => ⟨⟨fun i a ha hra => ?_, hA.2⟩, rfl⟩
          rcases get_snoc ha with ha1 | ⟨e1, e2⟩
          · exact hA.1 i a ha1 hra
          · rw [e2] at hra; exact absurd hra hb
        · rw [sem_snoc]
          refine ⟨Nat.le_refl _, fun b _ ho => ⟨fun i a ha hra => ?_, rfl⟩⟩
          rcases get_snoc ha with ha1 | ⟨e1, e2⟩
          · exact ho i a ha1 hra
          · rw [e2] at hra; exact absurd hra hb
        · intro b' lp xs s hi
          rcases nth_snoc hi with hi | hi
          · exact hi
          · cases hi
    | false =>
      obtain ⟨hc, hq⟩ := hq
      by_cases hg : c < n + n2
      · obtain ⟨c', w', hge, hrun, hk, hrel⟩ := grow hg
        have hq' := hq (some ⟨w.heap.size, 0, none⟩) c' hge
        refine ⟨_, _, _, _, w', hq', x_append hx hy hrun, .inl rfl, ?_, .of hk⟩
        have hi : nth (lb ++ [(w.heap.size, .vec enc inf.size e (some ⟨w.heap.size, 0, none⟩) (n + n2) c' (L ++ L2))]) lb.length = some (w.heap.size, .vec enc inf.size e (some ⟨w.heap.size, 0, none⟩) (n + n2) c' (L ++ L2)) := by rw [nth_eq]; simp
        have h6 := Imp.pubVec (Φ := Φ) lb.length hi ω w' hrel
        have h7 := Imp.take (Φ := slF enc inf.size (some ⟨w.heap.size, 0, none⟩) (n + n2) c' (L ++ L2) :: Φ) lb.length ω w' h6
        have h8 : ((lb ++ [(w.heap.size, OB.vec enc inf.size e (some ⟨w.heap.size, 0, none⟩) (n + n2) c' (L ++ L2))]).set lb.length (w.heap.size, .hole)).take lb.length = lb := by
          rw [List.take_set_of_le (Nat.le_refl _)]; simp
        rw [h8] at h7
        exact h7
      · have hn2 : n2 = 0 := by omega
        have hL2 : L2 = [] := List.length_eq_zero_iff.1 (by omega)
        subst hn2 hL2
        have hrun := run_append_room (P := P) (ty := ty) (w := w) (p := p) (n := n) (c := c) h1 h2 h3 f3 (by omega) (w' := w) (fun a _ => by simp [flat, storeCells]) (fun _ => rfl)
        have hq' := hq p c (by omega)
        refine ⟨_, _, _, _, w, hq', x_append hx hy hrun, .inl rfl, ⟨hr.st, Hold.cons ?_ hr.hold, hr.mu, hr.muM, hr.amb⟩, .of (Kept.refl _ _)⟩
        show (∀ x ∈ L ++ [], okE enc inf.size x) ∧ (L ++ []).length = n + 0 ∧ Sl _ w inf.size p (n + 0) c (flat enc (L ++ []))
        rw [List.append_nil]
        exact ⟨e1, e2, e3⟩
  · exact h.elim
end Go.Proofs.YtikjigkkhdkibaaGreatDoor.W

/- Rules: slices that are made, copied, written out. Over any program. -/
namespace Go.Proofs.YtikjigkkhdkibaaGreatDoor.W
open Go.RowKit
variable {P : Program} {nt : Nat} {ro : Option Nat} {env env' : Env} {ds : List Deferred} {lb lb' : LBs} {Φ Φ' : Facts} {ω : Amb} {A : Nat → Prop} {w : World} {E : Operand → Value}
variable {d : Option Tmp} {ty : TypeId} {pos : String} {af : Array Edge} {g : Option (Nat × Bool)} {kp : Kp} {q : SV → LBs → Facts → Prop}
theorem range_made (z : Array Value) (l : Nat) : (List.range (l * z.size)).map (fun i => z[i % z.size]!) = (List.replicate l z.toList).flatten := by
  induction l with
  | zero => simp
  | succ l ih =>
    rw [Nat.succ_mul, List.range_add, List.map_append, ih, List.replicate_succ', List.flatten_append]
    congr 1
    simp only [List.map_map, List.flatten_cons, List.flatten_nil, List.append_nil]
    refine List.ext_getElem (by simp) fun i h1 h2 => ?_
    have hi : i < z.size := by simpa using h1
    simp [Nat.mod_eq_of_lt hi, hi]
theorem madeCells_take (z : Array Value) (l c : Nat) (h : l ≤ c) : (madeCells z (c * z.size)).toList.take (l * z.size) = (List.replicate l z.toList).flatten := by
  rw [← range_made, madeCells]
  simp only [Array.toList_map, Array.toList_range, ← List.map_take, List.take_range]
  rw [Nat.min_eq_left (Nat.mul_le_mul_right _ h)]
theorem flat_replicate {α : Type} {enc : α → List SV} (x : α) (l : Nat) : flat enc (List.replicate l x) = (List.replicate l (dens (enc x))).flatten := by
  simp [flat, List.flatMap_replicate]
/-- what a make of a slice is to be shown -/
structure MkV (lb : LBs) (Φ : Facts) (e : TypeId) (k bytes : Nat) (zs : List Value) (l c : Int) (q : SV → LBs → Facts → Prop) : Prop where
  h : ∃ (α : Type) (enc : α → List SV) (x : α), dens (enc x) = zs ∧ okE enc k x ∧ 0 ≤ l ∧ l ≤ c ∧ (bytes : Int) * c ≤ 281474976710656 ∧ c ≤ 9223372036854775807 ∧
    ∀ b, appK lb [(b, .vec enc k e (some ⟨b, 0, none⟩) l.toNat c.toNat (List.replicate l.toNat x))] fun lb' => lenK lb 0 fun i => q (.vec i (some ⟨b, 0, none⟩) l.toNat c.toNat) lb' Φ
theorem SemO.make {t : TypeId} {x y : Operand} (h : evS env x fun vx => evS env y fun vy => match vx, vy with
      | .int _ l, .int _ c => appTy P t t fun e k bytes => match P.info? e with
        | some i => match i.zero with
          | some z => MkV lb Φ e k bytes z.cells.toList l c q
          | none => False
        | none => False
      | _, _ => False) : SemO P kp (.makeSlice t x y) ty env lb Φ q := by
  refine ⟨fun E d pos af g ω w he hr => ?_⟩
  obtain ⟨vx, hx, hh⟩ := evS_ok he h
  clear h
  obtain ⟨vy, hy, h⟩ := evS_ok he hh
  clear hh
  split at h
  · rename_i kl l kc c
    obtain ⟨e, f, inf, z, h1, h2, h3, h4, h5, hh⟩ := appTy_ok h
    clear h
    rw [h3] at hh
    simp only [h4] at hh
    obtain ⟨α, enc, x0, hz, hok, hl0, hlc, hb, h63, hq⟩ := hh.h
    have hrun := run_make (P := P) w t e inf z h1 h3 h4 kl kc l c hl0 hlc hb h63
    have hq' := hq w.heap.size
    rw [appK_eq, lenK_eq] at hq'
    have hx' : E x = .int kl l := hx
    have hy' : E y = .int kc c := hy
    have hex : (execOp E ⟨d, .makeSlice t x y, ty, pos, af, g⟩).run P w = .ok (.value (.slice (some ⟨w.heap.size, 0, none⟩) l.toNat c.toNat)) (w.alloc (.cells (madeCells z.cells (c.toNat * inf.size)) e)) := by
      simp [execOp, hx', hy', hrun, Result.andThen]
    refine ⟨_, _, _, _, _, hq', hex, .inl rfl, ?_, .of (Kept.alloc _ _ _)⟩
    · refine hr.alloc (b := .vec enc inf.size e (some ⟨w.heap.size, 0, none⟩) l.toNat c.toNat (List.replicate l.toNat x0)) (fun _ _ _ h => by cases h) rfl ⟨_, _, rfl, Thaw.zero _, ?_, ?_⟩ ?_
      · simp [madeCells]
      · rw [flat_replicate, hz, ← h5]
        exact madeCells_take _ _ _ (by omega)
      · exact ⟨by simp, by omega, by omega, fun y hy => by rw [List.eq_of_mem_replicate hy]; exact hok, fun _ => rfl, fun h => by cases h⟩
  · exact h.elim
/-- elements, one by one -/
inductive EncL {α : Type} (enc : α → List SV) : List α → List (List SV) → Prop where
  | nil : EncL enc [] []
  | cons {x : α} {c : List SV} {L : List α} {C : List (List SV)} : enc x = c → EncL enc L C → EncL enc (x :: L) (c :: C)
theorem fill_row (size : Nat) : ∀ (vs : List Value) (i : Nat) (pre rest : List Value), (∀ v ∈ vs, v.cells.size = size) → pre.length = i * size → rest.length = vs.length * size →
    Instr.fill (fun i => some (i * size, size)) (pre ++ rest).toArray ((List.range' i vs.length).zip vs) = some (pre ++ vs.flatMap fun v => v.cells.toList).toArray
  | [], i, pre, rest, _, _, hr => by
    have : rest = [] := List.length_eq_zero_iff.1 (by simpa using hr)
    subst this
    simp [Instr.fill]
  | v :: vs, i, pre, rest, hv, hp, hr => by
    have hsz := hv v (by simp)
    simp only [List.length_cons, List.range'_succ, List.zip_cons_cons, Instr.fill]
    rw [List.length_cons, Nat.succ_mul] at hr
    rw [if_neg (by simp [hsz, hp]; omega)]
    have h1 := zip_fold (i * size) v.cells.toList 0 (pre ++ rest) (by simp [hsz, hp]; omega)
    rw [Nat.add_zero] at h1
    have h2 : (v.cells.zipIdx.foldl (fun cs (x : Value × Nat) => match x with | (c, j) => cs.setIfInBounds (i * size + j) c) (pre ++ rest).toArray) = (upd (pre ++ rest) (i * size) v.cells.toList).toArray := by
      rw [← h1, ← Array.foldl_toList]
      simp
    rw [h2]
    have h3 : upd (pre ++ rest) (i * size) v.cells.toList = (pre ++ v.cells.toList) ++ rest.drop size := by
      simp only [upd]
      rw [Array.length_toList, hsz, ← hp, List.take_left, ← List.drop_drop, List.drop_left]
    rw [h3, fill_row size vs (i + 1) (pre ++ v.cells.toList) (rest.drop size) (fun u hu => hv u (by simp [hu])) (by simp [hsz, hp, Nat.succ_mul]) (by simp; omega)]
    simp
/-- the operands of parts that come one by one -/
noncomputable def partsE (env : Env) (i : Nat) (l : List (Nat × Operand)) : (List SV → Prop) → Prop :=
  List.rec (motive := fun _ => Nat → (List SV → Prop) → Prop) (fun _ k => k []) (fun p _ ih i k => match Nat.beq i p.1 with
    | true => evS env p.2 fun v => ih (Nat.succ i) fun vs => k (v :: vs)
    | false => False) l i
theorem partsE_c {env : Env} {i j : Nat} {x : Operand} {r : List (Nat × Operand)} {k : List SV → Prop} : partsE env i ((j, x) :: r) k = match Nat.beq i j with
    | true => evS env x fun v => partsE env (Nat.succ i) r fun vs => k (v :: vs)
    | false => False := rfl
theorem partsE_ok (he : EvOk E env) : ∀ {ps : List (Nat × Operand)} {i : Nat} {k : List SV → Prop}, partsE env i ps k → ∃ vs, k vs ∧ vs.length = ps.length ∧ ps.map (fun p => (p.1, E p.2)) = (List.range' i ps.length).zip (dens vs)
  | [], i, k, h => ⟨[], h, rfl, rfl⟩
  | (j, x) :: r, i, k, h => by
    rw [partsE_c] at h
    split at h
    · rename_i hb
      obtain rfl : i = j := Nat.eq_of_beq_eq_true hb
      obtain ⟨v, hv, h⟩ := evS_ok he h
      obtain ⟨vs, hk, hl, hm⟩ := partsE_ok he h
      refine ⟨v :: vs, hk, by simp [hl], ?_⟩
      simp only [List.map_cons, List.length_cons, List.range'_succ, dens, List.zip_cons_cons, hm, hv]
    · exact h.elim
/-- what a literal of a slice is to be shown -/
structure BsV (lb : LBs) (Φ : Facts) (k : Nat) (vs : List SV) (q : SV → LBs → Facts → Prop) : Prop where
  h : ∃ (α : Type) (enc : α → List SV) (L : List α), EncL enc L (vs.map cellsOf) ∧ (∀ x ∈ L, okE enc k x) ∧ ∀ p, q (.raw (.slice p vs.length vs.length)) lb (slF enc k p vs.length vs.length L :: Φ)
theorem EncL.flat {α : Type} {enc : α → List SV} {L : List α} {C : List (List SV)} (h : EncL enc L C) : W.flat enc L = C.flatMap dens ∧ L.length = C.length := by
  induction h with
  | nil => exact ⟨rfl, rfl⟩
  | cons h1 h2 ih => subst h1; exact ⟨by simp [W.flat] at ih ⊢; rw [ih.1], by simp [ih.2]⟩
theorem EncL.get {α : Type} {enc : α → List SV} {L : List α} {C : List (List SV)} (h : EncL enc L C) : L.map enc = C := by
  induction h with
  | nil => rfl
  | cons h1 h2 ih => simp [h1, ih]
theorem SemO.lit {t : TypeId} {len : Nat} {parts : Array (Nat × Operand)} (h : appTy P t t fun _ k _ => match Nat.beq parts.toList.length len && Nat.ble (len * k) 16777216 && Nat.ble 1 (len * k) with
      | true => arrK parts fun parts => partsE env 0 parts fun vs => BsV lb Φ k vs q
      | false => False) : SemO P kp (.buildSlice t len parts) ty env lb Φ q := by
  refine ⟨fun E d pos af g ω w he hr => ?_⟩
  obtain ⟨e, f, inf, z, h1, h2, h3, h4, h5, hh⟩ := appTy_ok h
  clear h
  split at hh
  · rename_i hc
    simp only [Bool.and_eq_true] at hc
    have hlen : parts.toList.length = len := Nat.eq_of_beq_eq_true hc.1.1
    have hle : len * inf.size ≤ 16777216 := Nat.le_of_ble_eq_true hc.1.2
    have hpos : 1 ≤ len * inf.size := Nat.le_of_ble_eq_true hc.2
    have hlenle : len ≤ len * inf.size := Nat.le_mul_of_pos_right _ (Nat.pos_of_mul_pos_left hpos)
    obtain ⟨vs, hv, hvl, hm⟩ := partsE_ok he hh
    obtain ⟨α, enc, L, henc, hok, hq⟩ := hv.h
    have hget := henc.get
    have hflat := henc.flat
    have hcell : ∀ v ∈ dens vs, v.cells.size = inf.size := by
      intro v hv
      rw [dens_map] at hv
      obtain ⟨s, hs, rfl⟩ := List.mem_map.1 hv
      have : cellsOf s ∈ L.map enc := by rw [hget]; exact List.mem_map_of_mem hs
      obtain ⟨x, hx, hxe⟩ := List.mem_map.1 this
      have h6 := (hok x hx).1
      rw [hxe] at h6
      have h7 := congrArg List.length (dens_cells s)
      rw [dens_length, Array.length_toList] at h7
      exact h7.symm.trans h6
    have hvlen : (dens vs).length = len := by rw [dens_length, hvl, hlen]
    obtain ⟨zr, hzr⟩ : ∃ zr : List Value, zr = ((Array.range (len * inf.size)).map fun i => z.cells[i % z.cells.size]!).toList := ⟨_, rfl⟩
    have hrow := fill_row inf.size (dens vs) 0 [] zr hcell (by simp) (by rw [hzr, hvlen]; simp)
    have hcat : ((dens vs).flatMap fun v => v.cells.toList) = flat enc L := by
      rw [hflat.1, dens_map, List.flatMap_map, List.flatMap_map]
      congr 1
      funext s
      exact (dens_cells s).symm
    have hL : L.length = vs.length := by simpa using hflat.2
    have hrun : (Instr.buildSlice t len (parts.map fun (i, x) => (i, E x))).run P w = .ok (.slice (some ⟨w.heap.size, 0, none⟩) len len) (w.alloc (.cells (flat enc L).toArray e)) := by
      have hpm : (parts.map fun (i, x) => (i, E x)).toList = (List.range' 0 (dens vs).length).zip (dens vs) := by
        rw [Array.toList_map, hvlen, ← hlen]
        exact hm
      have hz' := tZero (P := P) h3 h4
      simp only [List.nil_append] at hrow
      rw [hcat] at hrow
      have hrow2 : Instr.fill (fun i => some (i * inf.size, inf.size)) ((Array.range (len * inf.size)).map fun i => z.cells[i % z.cells.size]!) ((List.range' 0 (dens vs).length).zip (dens vs)) = some (flat enc L).toArray := by
        rw [← hrow, hzr]
      unfold Instr.buildSlice
      simp only [Sem.run_bind, tUnd h1, Result.andThen, tSize h3]
      rw [if_neg (by omega)]
      have h0 : ¬ len * inf.size = 0 := by omega
      simp only [h0, ↓reduceIte, Sem.run_bind, Sem.run_pure, Result.andThen, hz', hpm]
      rw [hrow2]
      simp [newRow, Result.andThen]
    have hrel : Rel P (lb ++ [(w.heap.size, .vec enc inf.size e (some ⟨w.heap.size, 0, none⟩) len len L)]) Φ ω (w.alloc (.cells (flat enc L).toArray e)) := by
      have hfl := flat_length (enc := enc) (k := inf.size) (L := L) (fun x hx => (hok x hx).1)
      have hvl2 : L.length = len := by rw [hL, hvl, hlen]
      refine hr.alloc (b := .vec enc inf.size e (some ⟨w.heap.size, 0, none⟩) len len L) (fun _ _ _ h => by cases h) rfl ⟨_, _, rfl, Thaw.zero _, by simp [hfl, hvl2], ?_⟩ ⟨hvl2, Nat.le_refl _, ?_, hok, fun _ => rfl, fun h => by cases h⟩
      · show (flat enc L).take (len * inf.size) = _
        rw [List.take_of_length_le (by rw [hfl, hvl2]; exact Nat.le_refl _)]
      · omega
    have hi : nth (lb ++ [(w.heap.size, .vec enc inf.size e (some ⟨w.heap.size, 0, none⟩) len len L)]) lb.length = some (w.heap.size, .vec enc inf.size e (some ⟨w.heap.size, 0, none⟩) len len L) := by rw [nth_eq]; simp
    have h6 := Imp.pubVec (Φ := Φ) lb.length hi ω _ hrel
    have h7 := Imp.take (Φ := slF enc inf.size (some ⟨w.heap.size, 0, none⟩) len len L :: Φ) lb.length ω _ h6
    have h8 : ((lb ++ [(w.heap.size, OB.vec enc inf.size e (some ⟨w.heap.size, 0, none⟩) len len L)]).set lb.length (w.heap.size, .hole)).take lb.length = lb := by
      rw [List.take_set_of_le (Nat.le_refl _)]; simp
    rw [h8] at h7
    have hq' := hq (some ⟨w.heap.size, 0, none⟩)
    rw [hvl, hlen] at hq'
    exact ⟨_, _, _, _, _, hq', by simp [execOp, hrun, Result.andThen]; exact rfl, .inl rfl, h7, .of (Kept.alloc _ _ _)⟩
  · exact hh.elim
/-- what such a literal is to be shown -/
structure BvV (lb : LBs) (Φ : Facts) (e : TypeId) (k : Nat) (vs : List SV) (q : SV → LBs → Facts → Prop) : Prop where
  h : ∃ (α : Type) (enc : α → List SV) (L : List α), EncL enc L (vs.map cellsOf) ∧ (∀ x ∈ L, okE enc k x) ∧ ∀ b p, appK lb [(b, .vec enc k e p vs.length vs.length L)] fun lb' => lenK lb 0 fun i => q (.vec i p vs.length vs.length) lb' Φ
theorem BvV.mk' {lb : LBs} {Φ : Facts} {e : TypeId} {k : Nat} {vs : List SV} {q : SV → LBs → Facts → Prop} {α : Type} {enc : α → List SV} (L : List α) (h : EncL enc L (vs.map cellsOf)) (hok : ∀ x ∈ L, okE enc k x) (hq : ∀ b p, appK lb [(b, .vec enc k e p vs.length vs.length L)] fun lb' => lenK lb 0 fun i => q (.vec i p vs.length vs.length) lb' Φ) : BvV lb Φ e k vs q := ⟨_, enc, L, h, hok, hq⟩
/-- a literal of a slice, as a row of one's own -/
theorem SemO.litV {t : TypeId} {len : Nat} {parts : Array (Nat × Operand)} (h : appTy P t t fun ety k _ => match Nat.beq parts.toList.length len && Nat.ble (len * k) 16777216 && Nat.ble 1 (len * k) with
      | true => arrK parts fun parts => partsE env 0 parts fun vs => BvV lb Φ ety k vs q
      | false => False) : SemO P kp (.buildSlice t len parts) ty env lb Φ q := by
  refine ⟨fun E d pos af g ω w he hr => ?_⟩
  obtain ⟨e, f, inf, z, h1, h2, h3, h4, h5, hh⟩ := appTy_ok h
  clear h
  split at hh
  · rename_i hc
    simp only [Bool.and_eq_true] at hc
    have hlen : parts.toList.length = len := Nat.eq_of_beq_eq_true hc.1.1
    have hle : len * inf.size ≤ 16777216 := Nat.le_of_ble_eq_true hc.1.2
    have hpos : 1 ≤ len * inf.size := Nat.le_of_ble_eq_true hc.2
    have hlenle : len ≤ len * inf.size := Nat.le_mul_of_pos_right _ (Nat.pos_of_mul_pos_left hpos)
    obtain ⟨vs, hv, hvl, hm⟩ := partsE_ok he hh
    obtain ⟨α, enc, L, henc, hok, hq⟩ := hv.h
    have hget := henc.get
    have hflat := henc.flat
    have hcell : ∀ v ∈ dens vs, v.cells.size = inf.size := by
      intro v hv
      rw [dens_map] at hv
      obtain ⟨s, hs, rfl⟩ := List.mem_map.1 hv
      have : cellsOf s ∈ L.map enc := by rw [hget]; exact List.mem_map_of_mem hs
      obtain ⟨x, hx, hxe⟩ := List.mem_map.1 this
      have h6 := (hok x hx).1
      rw [hxe] at h6
      have h7 := congrArg List.length (dens_cells s)
      rw [dens_length, Array.length_toList] at h7
      exact h7.symm.trans h6
    have hvlen : (dens vs).length = len := by rw [dens_length, hvl, hlen]
    obtain ⟨zr, hzr⟩ : ∃ zr : List Value, zr = ((Array.range (len * inf.size)).map fun i => z.cells[i % z.cells.size]!).toList := ⟨_, rfl⟩
    have hrow := fill_row inf.size (dens vs) 0 [] zr hcell (by simp) (by rw [hzr, hvlen]; simp)
    have hcat : ((dens vs).flatMap fun v => v.cells.toList) = flat enc L := by
      rw [hflat.1, dens_map, List.flatMap_map, List.flatMap_map]
      congr 1
      funext s
      exact (dens_cells s).symm
    have hL : L.length = vs.length := by simpa using hflat.2
    have hrun : (Instr.buildSlice t len (parts.map fun (i, x) => (i, E x))).run P w = .ok (.slice (some ⟨w.heap.size, 0, none⟩) len len) (w.alloc (.cells (flat enc L).toArray e)) := by
      have hpm : (parts.map fun (i, x) => (i, E x)).toList = (List.range' 0 (dens vs).length).zip (dens vs) := by
        rw [Array.toList_map, hvlen, ← hlen]
        exact hm
      have hz' := tZero (P := P) h3 h4
      simp only [List.nil_append] at hrow
      rw [hcat] at hrow
      have hrow2 : Instr.fill (fun i => some (i * inf.size, inf.size)) ((Array.range (len * inf.size)).map fun i => z.cells[i % z.cells.size]!) ((List.range' 0 (dens vs).length).zip (dens vs)) = some (flat enc L).toArray := by
        rw [← hrow, hzr]
      unfold Instr.buildSlice
      simp only [Sem.run_bind, tUnd h1, Result.andThen, tSize h3]
      rw [if_neg (by omega)]
      have h0 : ¬ len * inf.size = 0 := by omega
      simp only [h0, ↓reduceIte, Sem.run_bind, Sem.run_pure, Result.andThen, hz', hpm]
      rw [hrow2]
      simp [newRow, Result.andThen]
    have hrel : Rel P (lb ++ [(w.heap.size, .vec enc inf.size e (some ⟨w.heap.size, 0, none⟩) len len L)]) Φ ω (w.alloc (.cells (flat enc L).toArray e)) := by
      have hfl := flat_length (enc := enc) (k := inf.size) (L := L) (fun x hx => (hok x hx).1)
      have hvl2 : L.length = len := by rw [hL, hvl, hlen]
      refine hr.alloc (b := .vec enc inf.size e (some ⟨w.heap.size, 0, none⟩) len len L) (fun _ _ _ h => by cases h) rfl ⟨_, _, rfl, Thaw.zero _, by simp [hfl, hvl2], ?_⟩ ⟨hvl2, Nat.le_refl _, ?_, hok, fun _ => rfl, fun h => by cases h⟩
      · show (flat enc L).take (len * inf.size) = _
        rw [List.take_of_length_le (by rw [hfl, hvl2]; exact Nat.le_refl _)]
      · omega
    have hq' := hq w.heap.size (some ⟨w.heap.size, 0, none⟩)
    rw [appK_eq, lenK_eq, Nat.zero_add] at hq'
    rw [hvl, hlen] at hq'
    exact ⟨_, _, _, _, _, hq', by simp [execOp, hrun, Result.andThen]; exact rfl, .inl rfl, hrel, .of (Kept.alloc _ _ _)⟩
  · exact hh.elim
end Go.Proofs.YtikjigkkhdkibaaGreatDoor.W

/- Rules: copies; calls that are lent blocks. Over any program. -/
namespace Go.Proofs.YtikjigkkhdkibaaGreatDoor.W
open Go.RowKit
variable {P : Program} {nt : Nat} {ro : Option Nat} {env env' : Env} {ds : List Deferred} {lb lb' : LBs} {Φ Φ' : Facts} {ω : Amb} {A : Nat → Prop} {w : World} {E : Operand → Value}
variable {d : Option Tmp} {ty : TypeId} {pos : String} {af : Array Edge} {g : Option (Nat × Bool)} {kp : Kp} {q : SV → LBs → Facts → Prop}
/-- what a copy into a row of one's own is to be shown -/
structure CpV (kp : Kp) (i b : Nat) {α : Type} (enc : α → List SV) (k : Nat) (e : TypeId) (p : Option Addr) (n c : Nat) (L : List α) (p2 : Option Addr) (n2 c2 : Nat) (lb : LBs) (Φ : Facts) (q : SV → LBs → Facts → Prop) : Prop where
  h : okKp kp i = true ∧ ∃ L2, SlV Φ enc k p2 n2 c2 L2 ∧ setK lb i (b, .vec enc k e p n c (L2.take (min n2 n) ++ L.drop (min n2 n))) fun lb => q (.int .i64 (min n2 n : Nat)) lb Φ
theorem SemO.copy {x y : Operand} {t u : TypeId} (h : evS env x fun vx => evS env y fun vy => match vx, vy with
      | .vec i p n c, .raw (.slice p2 n2 c2) => appTy P t u fun e k _ => match nth lb i with
        | some (b, .vec enc k' e' p' n' c' L) => Ob (p' = p ∧ n' = n ∧ c' = c ∧ k' = k ∧ e' = e) (CpV kp i b enc k e p n c L p2 n2 c2 lb Φ q)
        | _ => False
      | _, _ => False) : SemO P kp (.call ⟨.builtin .copy, #[x, y], #[t, u]⟩) ty env lb Φ q := by
  refine ⟨fun E d pos af g ω w he hr => ?_⟩
  obtain ⟨vx, hx, hh⟩ := evS_ok he h
  clear h
  obtain ⟨vy, hy, h⟩ := evS_ok he hh
  clear hh
  split at h
  · rename_i i p n c p2 n2 c2
    obtain ⟨e, f, inf, z, h1, h2, h3, h4, h5, hh⟩ := appTy_ok h
    clear h
    split at hh
    · rename_i b0 α enc k' e' p' n' c' L hi
      obtain ⟨⟨rfl, rfl, rfl, rfl, rfl⟩, hh⟩ := hh
      obtain ⟨hokp, L2, hv, hq⟩ := hh.h
      rw [setK_eq] at hq
      obtain ⟨g1, g2⟩ := hr.vec hi
      obtain ⟨f1, f2, f3⟩ := hv.ok hr.hold
      have hg := sem_get hi
      have hm1 : min n2 n' ≤ n2 := Nat.min_le_left _ _
      have hm2 : min n2 n' ≤ n' := Nat.min_le_right _ _
      generalize hm : min n2 n' = m at *
      have hfirst := f3.first (P := P) hm1
      rw [← flat_take (fun x hx => (f1 x hx).1)] at hfirst
      have hok1 : ∀ x ∈ L2.take m, okE enc inf.size x := fun x hx => f1 x (List.mem_of_mem_take hx)
      have hok : ∀ x ∈ L2.take m ++ L.drop m, okE enc inf.size x := fun x hx => by
        rcases List.mem_append.1 hx with hx | hx
        · exact hok1 x hx
        · exact g1.2.2.2.1 x (List.mem_of_mem_drop hx)
      have hlm : (L2.take m).length = m := by rw [List.length_take, f2, Nat.min_eq_left hm1]
      have hlen : (L2.take m ++ L.drop m).length = n' := by rw [List.length_append, hlm, List.length_drop, g1.1]; omega
      have hfl := flat_length (enc := enc) (k := inf.size) (L := L2.take m) (fun x hx => (hok1 x hx).1)
      rw [hlm] at hfl
      have hmin : Nat.min n2 n' = m := hm
      rcases Nat.eq_zero_or_pos c' with hc | hc
      · have hn0 : n' = 0 := by omega
        have hm0 : m = 0 := by omega
        have hL : L = [] := List.length_eq_zero_iff.1 (by omega)
        subst hm0 hn0 hL
        have hrun : (Builtin.copy_ #[t, u] ty #[.slice p' 0 c', .slice p2 n2 c2]).run P w = .ok (.int .i64 ((0 : Nat) : Int)) w := by
          rw [List.take_zero] at hfirst
          cases p' with
          | none => simp [Builtin.copy_, tUnd h1, tSize h3, Builtin.lenOf, hfirst, flat, Result.andThen]; rfl
          | some a => simp [Builtin.copy_, tUnd h1, tSize h3, Builtin.lenOf, hfirst, flat, storeCells, Result.andThen]; rfl
        refine ⟨_, _, _, _, w, hq, x_builtin rfl (by simp [builtin, hx, hy, SV.den, hrun, Result.andThen]), .inl rfl, ?_, .of (Kept.refl _ _)⟩
        have : lb.set i (b0, .vec enc inf.size e' p' 0 c' (L2.take 0 ++ ([] : List α).drop 0)) = lb := by
          rw [nth_eq] at hi
          obtain ⟨hlt, heq⟩ := List.getElem?_eq_some_iff.1 hi
          simp only [List.take_zero, List.drop_zero, List.append_nil]
          rw [← heq]
          exact List.set_getElem_self hlt
        rw [this]
        exact hr
      · obtain ⟨arr, fz, a1, az, a2, a3⟩ := g2 (by omega)
        have hp := g1.2.2.2.2.1 (by omega)
        have hmc : m * inf.size ≤ n' * inf.size := Nat.mul_le_mul_right _ hm2
        have hnc : n' * inf.size ≤ c' * inf.size := Nat.mul_le_mul_right _ g1.2.1
        obtain ⟨w', k1, k2, k3⟩ := run_storeCells (P := P) (flat enc (L2.take m)) 0 0 arr w a1 az (by rw [hfl, a2]; omega) (oneS_flat hok1)
        have hrun : (Builtin.copy_ #[t, u] ty #[.slice p' n' c', .slice p2 n2 c2]).run P w = .ok (.int .i64 (m : Int)) w' := by
          subst hp
          simp [Builtin.copy_, tUnd h1, tSize h3, Builtin.lenOf, hmin, hfirst, k1, Result.andThen]
          rfl
        refine ⟨_, _, _, _, w', hq, x_builtin rfl (by simp [builtin, hx, hy, SV.den, hrun, Result.andThen]), .inl rfl, ?_, .at hokp hi (show c' ≠ 0 by omega) k3⟩
        refine hr.turn hi (fun _ _ _ h => by cases h) (show c' ≠ 0 by omega) k3 rfl ⟨_, k2, _, _, rfl, ?_, ?_, ?_⟩ ?_
        · rw [List.size_toArray, upd_length _ _ _ (by rw [hfl, Array.length_toList, a2]; omega), Array.length_toList]; exact az
        · show (List.toArray _).size = c' * inf.size
          rw [List.size_toArray, upd_length _ _ _ (by rw [hfl, Array.length_toList, a2]; omega), Array.length_toList, a2]
        · show (List.toArray _).toList.take (n' * inf.size) = flat enc (L2.take m ++ L.drop m)
          rw [flat_append, flat_drop (fun x hx => (g1.2.2.2.1 x hx).1), ← a3]
          simp only [upd, Nat.add_zero, List.take_zero, List.nil_append, Nat.zero_add, hfl]
          rw [List.take_append, hfl, List.take_of_length_le (by rw [hfl]; exact hmc), List.drop_take]
        · exact ⟨hlen, g1.2.1, g1.2.2.1, hok, fun _ => hp, g1.2.2.2.2.2⟩
    · exact hh.elim
  · exact h.elim
/-! ### calls that are lent blocks of one's own -/
def merge {α : Type _} : List Nat → List α → List α → List α
  | [], bs, l => l ++ bs
  | i :: is, b :: bs, l => merge is bs (l.set i b)
  | _ :: _, [], l => l
theorem merge_get {α : Type _} : ∀ {is : List Nat} {bs l : List α} {j : Nat} {p : α}, is.Nodup → is.length ≤ bs.length → (merge is bs l)[j]? = some p →
    (∃ k : Nat, is[k]? = some j ∧ bs[k]? = some p) ∨ (j ∉ is ∧ l[j]? = some p) ∨ (l.length ≤ j ∧ bs[is.length + (j - l.length)]? = some p)
  | [], bs, l, j, p, _, _, h => by
    rcases get_append h with h | ⟨h1, h2⟩
    · exact .inr (.inl ⟨by simp, h⟩)
    · exact .inr (.inr ⟨h1, by simpa using h2⟩)
  | i :: is, b :: bs, l, j, p, hn, hl, h => by
    obtain ⟨hi, hn⟩ := List.nodup_cons.1 hn
    rcases merge_get (is := is) hn (by simpa using hl) h with ⟨k, h1, h2⟩ | ⟨h1, h2⟩ | ⟨h1, h2⟩
    · exact .inl ⟨k + 1, by simpa using h1, by simpa using h2⟩
    · by_cases e : i = j
      · subst e
        have hlt : i < l.length := by have := (List.getElem?_eq_some_iff.1 h2).1; simpa using this
        rw [List.getElem?_set_self hlt] at h2
        cases h2
        exact .inl ⟨0, rfl, rfl⟩
      · rw [List.getElem?_set_ne e] at h2
        exact .inr (.inl ⟨by simp [h1]; exact fun h => e h.symm, h2⟩)
    · rw [List.length_set] at h1 h2
      refine .inr (.inr ⟨h1, ?_⟩)
      rw [List.length_cons, show is.length + 1 + (j - l.length) = (is.length + (j - l.length)) + 1 from by omega]
      simpa using h2
  | _ :: _, [], _, _, _, _, hl, _ => by simp at hl
theorem merge_map {α β : Type _} (f : α → β) : ∀ (is : List Nat) (bs l : List α), (merge is bs l).map f = merge is (bs.map f) (l.map f)
  | [], bs, l => by simp [merge]
  | i :: is, b :: bs, l => by simp only [merge, List.map_cons, merge_map f is bs, List.map_set]
  | _ :: _, [], l => rfl
def mergeK {α : Type _} : List Nat → List α → List α → (List α → Prop) → Prop
  | [], bs, l, k => appK l bs k
  | i :: is, b :: bs, l, k => setK l i b fun l => mergeK is bs l k
  | _ :: _, [], _, _ => False
theorem mergeK_ok {α : Type _} : ∀ {is : List Nat} {bs l : List α} {k : List α → Prop}, mergeK is bs l k → k (merge is bs l) ∧ is.length ≤ bs.length
  | [], bs, l, k, h => by
    unfold mergeK at h
    rw [appK_eq] at h
    exact ⟨h, by simp⟩
  | i :: is, b :: bs, l, k, h => by
    unfold mergeK at h
    rw [setK_eq] at h
    obtain ⟨h1, h2⟩ := mergeK_ok h
    exact ⟨h1, by simpa using h2⟩
  | _ :: _, [], _, _, h => h.elim
def nodupB : List Nat → Bool
  | [] => true
  | i :: is => !is.contains i && nodupB is
theorem nodupB_ok : ∀ {is : List Nat}, nodupB is = true → is.Nodup
  | [], _ => List.nodup_nil
  | i :: is, h => by
    simp only [nodupB, Bool.and_eq_true] at h
    exact List.nodup_cons.2 ⟨by simpa using h.1, nodupB_ok h.2⟩
/-- the blocks that are lent -/
def picks (lb : LBs) : List Nat → LBs → Prop
  | [], [] => True
  | i :: is, e :: bs => nth lb i = some e ∧ picks lb is bs
  | _, _ => False
theorem picks_get : ∀ {lb : LBs} {is : List Nat} {bs : LBs}, picks lb is bs → ∀ {k : Nat} {e : Nat × OB}, bs[k]? = some e → ∃ i, is[k]? = some i ∧ lb[i]? = some e
  | _, [], [], _, _, _, h => by simp at h
  | lb, i :: is, e :: bs, hp, k, e', h => by
    cases k with
    | zero => exact ⟨i, rfl, by have := hp.1; rw [nth_eq] at this; simpa using this.trans (by simpa using h)⟩
    | succ k => exact picks_get hp.2 (by simpa using h)
  | _, _ :: _, [], hp, _, _, _ => hp.elim
  | _, [], _ :: _, hp, _, _, _ => hp.elim
theorem nodup_get {is : List Nat} (hn : is.Nodup) {j k x : Nat} (h1 : is[j]? = some x) (h2 : is[k]? = some x) : j = k := by
  obtain ⟨l1, e1⟩ := List.getElem?_eq_some_iff.1 h1
  obtain ⟨l2, e2⟩ := List.getElem?_eq_some_iff.1 h2
  have hp := List.pairwise_iff_getElem.1 hn
  rcases Nat.lt_trichotomy j k with h | h | h
  · exact absurd (e1.trans e2.symm) (hp j k l1 l2 h)
  · exact h
  · exact absurd (e2.trans e1.symm) (hp k j l2 l1 h)
/-- the blocks of a list that are there -/
def MuOf (l : LB) : Nat → Prop := fun b => ∃ (i : Nat) (p : Ent), l[i]? = some p ∧ p.real ∧ p.b = b
theorem picks_seq {lb : LBs} {is : List Nat} {bs : LBs} (h : picks lb is bs) (hns : noSeq bs = true) {b lp : Nat} {xs : List PubI} {s : Option Nat} (hi : nth bs 0 = some (b, .seq lp xs s)) : False := noSeq_ok hns hi
theorem Rel.lend (hr : Rel P lb Φ ω w) {is : List Nat} {bs : LBs} {Φ0 : Facts} (hp : picks lb is bs) (hns : noSeq bs = true) (hn : is.Nodup) (hΦ : ∀ F ∈ Φ0, F ∈ Φ) : Rel P bs Φ0 (amb0 (MuOf (sem bs)) w (ω.In (sem lb))) w := by
  have key : ∀ (k : Nat) (p : Ent), (sem bs)[k]? = some p → ∃ i, is[k]? = some i ∧ (sem lb)[i]? = some p := by
    intro k p h
    obtain ⟨e, he, rfl⟩ : ∃ e, bs[k]? = some e ∧ ent e = p := by simpa [sem] using h
    obtain ⟨i, h1, h2⟩ := picks_get hp he
    exact ⟨i, h1, by simp [sem, h2]⟩
  refine ⟨⟨Kept.refl _ _, ?_, ?_⟩, ?_, fun _ h => h.elim False.elim False.elim, ⟨fun _ h => h.elim, fun _ h => h.elim False.elim False.elim⟩, fun b lp xs s hi => (noSeq_ok hns hi).elim⟩
  · intro j k p p' hj hk hrp hrp' e
    obtain ⟨i, h1, h2⟩ := key j p hj
    obtain ⟨i', h1', h2'⟩ := key k p' hk
    have := hr.st.inj _ _ _ _ h2 h2' hrp hrp' e
    subst this
    exact nodup_get hn h1 h1'
  · intro k p hk
    obtain ⟨i, h1, h2⟩ := key k p hk
    refine ⟨(hr.st.own _ _ h2).1, fun hrp => ⟨.inl ⟨k, p, hk, hrp, rfl⟩, ((hr.st.own _ _ h2).2 hrp).2⟩⟩
  · intro F hF
    refine F.stb _ _ _ _ ?_ (hr.hold F (hΦ F hF))
    intro b _ hb
    exact ⟨⟨fun k p hk hrp => by obtain ⟨i, _, h2⟩ := key k p hk; exact hb.1 i p h2 hrp, id, .inl hb⟩, rfl⟩
/-- what a callee hands back that was lent blocks -/
theorem Rel.lent (hr : Rel P lb Φ ω w) {is : List Nat} {bs bs' : LBs} {Ψ : Facts} {w' : World} (hp : picks lb is bs) (hn : is.Nodup) (hl : is.length ≤ bs'.length) (hns : noSeq bs' = true)
    (h : Rel P bs' Ψ (amb0 (MuOf (sem bs)) w (ω.In (sem lb))) w') : Rel P (merge is bs' lb) (Ψ ++ Φ) ω w' := by
  have key : ∀ (k : Nat) (p : Ent), (sem bs)[k]? = some p → ∃ i, is[k]? = some i ∧ (sem lb)[i]? = some p := by
    intro k p h
    obtain ⟨e, he, rfl⟩ : ∃ e, bs[k]? = some e ∧ ent e = p := by simpa [sem] using h
    obtain ⟨i, h1, h2⟩ := picks_get hp he
    exact ⟨i, h1, by simp [sem, h2]⟩
  -- a lent block's address
  have mu : ∀ b, MuOf (sem bs) b → ∃ i p, i ∈ is ∧ (sem lb)[i]? = some p ∧ p.real ∧ p.b = b := by
    rintro b ⟨k, p, hk, hrp, rfl⟩
    obtain ⟨i, h1, h2⟩ := key k p hk
    exact ⟨i, p, List.mem_of_getElem? h1, h2, hrp, rfl⟩
  have hk : Kept (MuOf (sem bs)) w w' := h.st.kept
  -- own blocks that were not lent
  have rest : ∀ (j : Nat) (p : Ent), j ∉ is → (sem lb)[j]? = some p → p.real → ¬ MuOf (sem bs) p.b := by
    intro j p hj hp' hrp hmu
    obtain ⟨i, p2, hi, h2, hr2, e⟩ := mu _ hmu
    have := hr.st.inj _ _ _ _ hp' h2 hrp hr2 e.symm
    subst this
    exact hj hi
  have addr : ∀ (k : Nat) (p : Ent), (sem bs')[k]? = some p → p.real → MuOf (sem bs) p.b ∨ w.heap.size ≤ p.b := fun k p hp' hrp => ((h.st.own _ _ hp').2 hrp).1
  have hl' : is.length ≤ (sem bs').length := by simpa [sem] using hl
  have hmm : sem (merge is bs' lb) = merge is (sem bs') (sem lb) := merge_map _ _ _ _
  have hnmu : ∀ b, Off (sem lb) b → ¬ MuOf (sem bs) b := fun b ho hmu => by
    obtain ⟨i, p2, _, h2, hr2, e⟩ := mu _ hmu
    exact ho _ _ h2 hr2 e
  have hoff : ∀ b, b < w.heap.size → Off (sem lb) b → Off (merge is (sem bs') (sem lb)) b := by
    intro b hlt ho i p hi hrp e
    have new : ∀ k : Nat, (sem bs')[k]? = some p → False := fun k k2 => by
      rcases addr _ _ k2 hrp with h3 | h3
      · exact hnmu b ho (e ▸ h3)
      · omega
    rcases merge_get hn hl' hi with ⟨k, k1, k2⟩ | ⟨k1, k2⟩ | ⟨k1, k2⟩
    · exact new _ k2
    · exact ho _ _ k2 hrp e
    · exact new _ k2
  refine ⟨?_, ?_, ?_, hr.muM, ?_⟩
  · rw [hmm]
    refine ⟨?_, ?_, ?_⟩
    · refine ⟨hk.os.trans hr.st.kept.os, hk.tape.trans hr.st.kept.tape, hk.output.trans hr.st.kept.output, Nat.le_trans hr.st.kept.size hk.size, fun b hb hM => ?_⟩
      rw [← hr.st.kept.block b hb hM]
      refine hk.block b (Nat.lt_of_lt_of_le hb hr.st.size) fun hmu => ?_
      obtain ⟨i, p, _, h2, hrp, e⟩ := mu _ hmu
      rcases ((hr.st.own _ _ h2).2 hrp).1 with h3 | h3
      · exact hM (e ▸ h3)
      · omega
    · intro i j p p' hi hj hrp hrp' e
      have cases2 : ∀ {i j : Nat} {p p' : Ent}, i ∉ is → (sem lb)[i]? = some p → p.real → (∃ k : Nat, (sem bs')[k]? = some p') → p'.real → p.b = p'.b → False := by
        rintro i j p p' hi h1 hrp ⟨k, h2⟩ hrp' e
        rcases addr _ _ h2 hrp' with h3 | h3
        · exact rest _ _ hi h1 hrp (e ▸ h3)
        · have := hr.st.lt h1 hrp; omega
      rcases merge_get hn hl' hi with ⟨k, k1, k2⟩ | ⟨k1, k2⟩ | ⟨k1, k2⟩ <;> rcases merge_get hn hl' hj with ⟨m, m1, m2⟩ | ⟨m1, m2⟩ | ⟨m1, m2⟩
      · have := h.st.inj _ _ _ _ k2 m2 hrp hrp' e
        subst this
        exact Option.some.inj (k1.symm.trans m1)
      · exact (cases2 (j := 0) m1 m2 hrp' ⟨_, k2⟩ hrp e.symm).elim
      · have := h.st.inj _ _ _ _ k2 m2 hrp hrp' e
        have := (List.getElem?_eq_some_iff.1 k1).1
        omega
      · exact (cases2 (j := 0) k1 k2 hrp ⟨_, m2⟩ hrp' e).elim
      · exact hr.st.inj _ _ _ _ k2 m2 hrp hrp' e
      · exact (cases2 (j := 0) k1 k2 hrp ⟨_, m2⟩ hrp' e).elim
      · have := h.st.inj _ _ _ _ k2 m2 hrp hrp' e
        have := (List.getElem?_eq_some_iff.1 m1).1
        omega
      · exact (cases2 (j := 0) m1 m2 hrp' ⟨_, k2⟩ hrp e.symm).elim
      · have := h.st.inj _ _ _ _ k2 m2 hrp hrp' e
        omega
    · intro i p hi
      have fromNew : ∀ k : Nat, (sem bs')[k]? = some p → p.pure ∧ (p.real → (ω.M p.b ∨ ω.w0.heap.size ≤ p.b) ∧ ∃ o, w'.heap[p.b]? = some o ∧ p.pd o) := by
        intro k k2
        refine ⟨(h.st.own _ _ k2).1, fun hrp => ⟨?_, ((h.st.own _ _ k2).2 hrp).2⟩⟩
        rcases addr _ _ k2 hrp with h3 | h3
        · obtain ⟨i, p2, _, h2, hr2, e⟩ := mu _ h3
          rw [← e]
          exact ((hr.st.own _ _ h2).2 hr2).1
        · exact .inr (Nat.le_trans hr.st.size h3)
      rcases merge_get hn hl' hi with ⟨k, k1, k2⟩ | ⟨k1, k2⟩ | ⟨k1, k2⟩
      · exact fromNew _ k2
      · refine ⟨(hr.st.own _ _ k2).1, fun hrp => ?_⟩
        obtain ⟨h3, o, h4, h5⟩ := (hr.st.own _ _ k2).2 hrp
        exact ⟨h3, o, (hk.block _ (hr.st.lt k2 hrp) (rest _ _ k1 k2 hrp)).trans h4, h5⟩
      · exact fromNew _ k2
  · rw [hmm]
    refine Hold.append (h.hold.kp ?_) (hr.hold.kp ?_)
    · intro b _ hb
      refine ⟨⟨?_, ?_, ?_⟩, rfl⟩
      · intro i p hi hrp e
        rcases merge_get hn hl' hi with ⟨k, k1, k2⟩ | ⟨k1, k2⟩ | ⟨k1, k2⟩
        · exact hb.1 _ _ k2 hrp e
        · rcases hb.2.2 with h1 | h1 | h1
          · exact h1.1 _ _ k2 hrp e
          · have h1' : MuOf (sem bs) b := h1
            exact rest _ _ k1 k2 hrp (e ▸ h1')
          · have h2 : w.heap.size ≤ b := h1
            have := hr.st.lt k2 hrp; omega
        · exact hb.1 _ _ k2 hrp e
      · intro hm
        rcases hb.2.2 with h1 | h1 | h1
        · exact h1.2.1 hm
        · exact hnmu b (hr.mu b (.inl hm)).2 h1
        · have h2 : w.heap.size ≤ b := h1
          have := (hr.mu b (.inl hm)).1; omega
      · rcases hb.2.2 with h1 | h1 | h1
        · exact h1.2.2
        · obtain ⟨i, p2, _, h2, hr2, e⟩ := mu _ h1
          rw [← e]
          rcases ((hr.st.own _ _ h2).2 hr2).1 with h3 | h3
          · exact .inr (.inl h3)
          · exact .inr (.inr h3)
        · exact .inr (.inr (Nat.le_trans hr.st.size h1))
    · intro b hlt hb
      exact ⟨⟨hoff b hlt hb.1, hb.2⟩, hk.block b hlt (hnmu b hb.1)⟩
  · intro b hb
    rw [hmm]
    exact ⟨Nat.lt_of_lt_of_le (hr.mu b hb).1 hk.size, hoff b (hr.mu b hb).1 (hr.mu b hb).2⟩
  · intro b lp xs s hi
    have : nth lb 0 = some (b, .seq lp xs s) := by
      rw [nth_eq] at hi ⊢
      rcases merge_get hn hl hi with ⟨k, k1, k2⟩ | ⟨k1, k2⟩ | ⟨k1, k2⟩
      · rw [← nth_eq] at k2; exact (noSeq_ok hns k2).elim
      · exact k2
      · rw [← nth_eq] at k2; exact (noSeq_ok hns k2).elim
    obtain ⟨g1, g2⟩ := hr.amb b lp xs s this
    exact ⟨ω.stb _ _ _ _ g1 (hk.weaken fun b' hlt hmu => ⟨fun hm => hnmu b' (hr.mu b' (.inl hm)).2 hmu, fun hm => hnmu b' (hr.mu b' (.inr hm)).2 hmu⟩), g2⟩
/-- a call that is lent blocks of one's own: is: which ones, in the callee's order -/
theorem CallS.lend {f : FuncId} {args args' : List SV} {Φ0 : Facts} {bs : LBs} {R : SV → LBs → Facts → Prop} (is : List Nat) (h : Ct P f bs args' Φ0 R) (hp : picks lb is bs) (hns : noSeq bs = true) (hn : nodupB is = true) (ha : dens args' = dens args) (hΦ : ∀ F ∈ Φ0, F ∈ Φ)
    (hq : ∀ r bs' Ψ, R r bs' Ψ → noSeq bs' = true ∧ mergeK is bs' lb fun lb' => appK Ψ Φ fun Φ' => q r lb' Φ') : CallS P none f args lb Φ q := by
  refine ⟨fun ω w hr => ?_⟩
  have hn := nodupB_ok hn
  have h1 := h.h _ _ w (hr.lend hp hns hn hΦ)
  rw [ha] at h1
  refine Calls.mono h1 fun e w' ⟨v, he, hk, r, bs', Ψ, hv, hR, hr'⟩ => ?_
  subst hv
  obtain ⟨hns', hmk⟩ := hq r bs' Ψ hR
  obtain ⟨h2, h3⟩ := mergeK_ok hmk
  rw [appK_eq] at h2
  exact ⟨r, _, Ψ ++ Φ, he, h2, hr.lent hp hn h3 hns' hr', trivial⟩
end Go.Proofs.YtikjigkkhdkibaaGreatDoor.W

/- Ranges over functions. Over any program. -/
namespace Go.Proofs.YtikjigkkhdkibaaGreatDoor.W
open Go.RowKit
variable {P : Program} {nt : Nat} {ro : Option Nat} {env env' : Env} {ds : List Deferred} {lb lb' : LBs} {Φ Φ' : Facts} {ω : Amb} {A : Nat → Prop} {w : World} {E : Operand → Value}
/-- what an iterator's call does: it yields xs, one by one, till it is told to stop; bs: what it is lent -/
structure It (P : Program) (gf : FuncId) (bs : LBs) (caps : List SV) (Φ : Facts) (xs : List PubI) (R : LBs → Facts → Prop) : Prop where
  h : ∀ (lp : Nat) (ω : Amb) (w : World), Rel P ((0, .seq lp xs (some 0)) :: bs) Φ ω w →
    Calls P gf (dens (.yld lp :: caps)).toArray w fun e w' => ∃ v s Mu lb' Φ', e = .returned v ∧ (s = none ∨ s = some xs.length) ∧ Rel P ((0, .seq lp xs s) :: lb') Φ' (ω.mu Mu) w' ∧ R lb' Φ'
def ItEnd (lp : Nat) (xs : List PubI) (R : LBs → Facts → Prop) : SV → LBs → Facts → Prop := fun _ lb Φ => ∃ s lb', lb = (0, .seq lp xs s) :: lb' ∧ (s = none ∨ s = some xs.length) ∧ R lb' Φ
theorem It.of {f : FuncId} {fn : Func} {c : Code} {n : Nat} {rs : List ResultVar} {bs : LBs} {caps : List SV} {xs : List PubI} {R : LBs → Facts → Prop} (hf : P.funcs[f]? = some fn) (hb : fn.body = some c) (hn : fn.ntmps = n) (hl : Nat.ble (caps.length + 1) n = true) (hrs : fn.results.toList = rs)
    (h : ∀ lp, argK 0 (.yld lp :: caps) fun env => wpC P n none c env [] ((0, .seq lp xs (some 0)) :: bs) Φ (endW P fn rs (ItEnd lp xs R))) : It P f bs caps Φ xs R := ⟨fun lp _ _ hr =>
  Calls.mono (enter hf hb hn hl hrs (h lp) hr) fun _ _ ⟨v, _, Φ', Mu, he, ⟨s, lb', e1, e2, e3⟩, h3⟩ => ⟨v.den, s, Mu, lb', Φ', he, e2, by rw [e1] at h3; exact h3, e3⟩⟩
/-- the consumer, anew from a round's beginning; S: what it reads -/
def Amb.round (ω : Amb) (lb : LBs) (S : Nat → Prop) (w : World) : Amb :=
  { M := fun b => MuOf (sem lb) b ∨ ω.Mu.1 b, w0 := w, A := S, G := fun b => ω.Mu.1 b ∨ ω.Mu.2 b, Mu := ω.Mu, Z := ω.Z, stb := ω.stb, N := ω.N, free := False, hfree := fun h => h.elim, mono := ω.mono }
def plainK : LBs → Prop
  | (_, .seq _ xs _) :: _ => plainX xs
  | _ => True
theorem plainK_ok {lb : LBs} (h : plainK lb) {b lp : Nat} {xs : List PubI} {s : Option Nat} (hi : nth lb 0 = some (b, .seq lp xs s)) : plainX xs := by
  match lb, hi with
  | (_, .seq _ _ _) :: _, hi => cases hi; exact h
theorem Rel.round (h : Rel P lb Φ ω w) (hpl : plainK lb) {S : Nat → Prop} (hS : ∀ b, S b → ω.In (sem lb) b) (hh : Hold Φ S w) : Rel P lb Φ (ω.round lb S w) w := by
  refine ⟨⟨Kept.refl _ _, h.st.inj, fun i p hp => ⟨(h.st.own i p hp).1, fun hr => ⟨.inl (.inl ⟨i, p, hp, hr, rfl⟩), ((h.st.own i p hp).2 hr).2⟩⟩⟩, hh.kp fun b _ hb => ⟨⟨(hS b hb).1, (hS b hb).2.1, .inl hb⟩, rfl⟩, h.mu,
    ⟨fun b hb => .inl (.inr hb), fun b hb => .inl hb⟩, fun b lp xs s hi => ⟨(h.amb b lp xs s hi).1, (h.amb b lp xs s hi).2.1, .inl (plainK_ok hpl hi)⟩⟩
theorem Rel.own_old (h : Rel P lb Φ ω w) {b : Nat} (hb : MuOf (sem lb) b) : ω.M b ∨ ω.w0.heap.size ≤ b := by
  obtain ⟨i, p, hp, hr, rfl⟩ := hb
  exact ((h.st.own i p hp).2 hr).1
theorem Rel.roundEnd {S : Nat → Prop} {Mu' : Foot} {w' : World} (h : Rel P lb Φ ω w) (hS : ∀ b, S b → ω.In (sem lb) b) (h' : Rel P lb' Φ' ((ω.round lb S w).mu Mu') w') : Rel P lb' Φ' (ω.mu Mu') w' := by
  have hM : ∀ b, ((ω.round lb S w).M b ∨ w.heap.size ≤ b) → ω.M b ∨ ω.w0.heap.size ≤ b := by
    rintro b ((hb | hb) | hb)
    · exact h.own_old hb
    · exact h.muM.1 b hb
    · exact .inr (Nat.le_trans h.st.size hb)
  have hk : Kept (ω.round lb S w).M w w' := h'.st.kept
  refine ⟨⟨?_, h'.st.inj, fun i p hp => ⟨(h'.st.own i p hp).1, fun hr => ⟨hM _ ((h'.st.own i p hp).2 hr).1, ((h'.st.own i p hp).2 hr).2⟩⟩⟩, h'.hold.kp fun b _ hb => ⟨⟨hb.1, hb.2.1, ?_⟩, rfl⟩, h'.mu, ⟨fun b hb => hM b (h'.muM.1 b hb), fun b hb => ?_⟩, fun b lp xs s hi => ⟨(h'.amb b lp xs s hi).1, (h'.amb b lp xs s hi).2.1, .inl ((h'.amb b lp xs s hi).2.2.elim id False.elim)⟩⟩
  · refine ⟨hk.os.trans h.st.kept.os, hk.tape.trans h.st.kept.tape, hk.output.trans h.st.kept.output, Nat.le_trans h.st.size hk.size, fun b hb hm => ?_⟩
    have hb' : b < ω.w0.heap.size := hb
    refine (hk.block b (Nat.lt_of_lt_of_le hb' h.st.size) fun hx => ?_).trans (h.st.kept.block b hb hm)
    rcases hM b (.inl hx) with h1 | h1
    · exact hm h1
    · omega
  · rcases hb.2.2 with h1 | h1 | h1
    · exact (hS b h1).2.2
    · exact .inr (hM b (.inl h1))
    · exact .inr (.inr (Nat.le_trans h.st.size h1))
  · rcases h'.muM.2 b hb with h1 | h1
    · exact h.muM.2 b h1
    · exact .inr (Nat.le_trans h.st.size h1)
end Go.Proofs.YtikjigkkhdkibaaGreatDoor.W

/- Ranges over functions: the consumer. Over any program. -/
namespace Go.Proofs.YtikjigkkhdkibaaGreatDoor.W
open Go.RowKit
variable {P : Program} {nt : Nat} {ro : Option Nat} {env env' : Env} {ds : List Deferred} {lb lb' : LBs} {Φ Φ' : Facts} {ω : Amb} {A : Nat → Prop} {w : World} {E : Operand → Value}
/-- how a consumer stands, in the eyes of one who sees its blocks Mu alone -/
structure Cov (P : Program) (lb : LBs) (Φ : Facts) (ω : Amb) (Mu Muo : Foot) (W : World) : Prop where
  rel : Rel P lb Φ (ω.mu Muo) W
  own : ∀ b, MuOf (sem lb) b → Mu.1 b
  outer : ∀ b, Muo.1 b → Mu.1 b
  just : ∀ b, Mu.1 b → MuOf (sem lb) b ∨ Muo.1 b
  rely : ∀ b, Muo.2 b → Mu.1 b ∨ Mu.2 b
  old : ∀ b, b < ω.w0.heap.size → ¬ ω.M b → Mu.1 b ∨ Mu.2 b
  hold : Hold Φ (fun b => (ω.mu Muo).In (sem lb) b ∧ (Mu.1 b ∨ Mu.2 b)) W
theorem Cov.keep {Mu Muo : Foot} {W W' : World} (h : Cov P lb Φ ω Mu Muo W) (hk : Kept (fun b => ¬ Mu.1 b ∧ ¬ Mu.2 b) W W') : Cov P lb Φ ω Mu Muo W' := by
  have same : ∀ b, b < W.heap.size → (Mu.1 b ∨ Mu.2 b) → W'.heap[b]? = W.heap[b]? := fun b hlt hb => hk.block b hlt fun hn => hb.elim hn.1 hn.2
  have hh : Hold Φ (fun b => (ω.mu Muo).In (sem lb) b ∧ (Mu.1 b ∨ Mu.2 b)) W' := h.hold.kp fun b hlt hb => ⟨hb, same b hlt hb.2⟩
  refine ⟨⟨⟨?_, h.rel.st.inj, fun i p hp => ⟨(h.rel.st.own i p hp).1, fun hr => ?_⟩⟩, hh.kp fun _ _ hb => ⟨hb.1, rfl⟩, fun b hb => ⟨Nat.lt_of_lt_of_le (h.rel.mu b hb).1 hk.size, (h.rel.mu b hb).2⟩, h.rel.muM, fun b lp xs s hi => ⟨ω.stb _ _ _ _ (h.rel.amb b lp xs s hi).1 (hk.weaken fun b' _ hn => ⟨fun hm => hn.1 (h.outer _ hm), fun hm => (h.rely _ hm).elim hn.1 hn.2⟩), (h.rel.amb b lp xs s hi).2⟩⟩, h.own, h.outer, h.just, h.rely, h.old, hh⟩
  · have hk0 := h.rel.st.kept
    refine ⟨hk.os.trans hk0.os, hk.tape.trans hk0.tape, hk.output.trans hk0.output, Nat.le_trans hk0.size hk.size, fun b hb hm => ?_⟩
    exact (same b (Nat.lt_of_lt_of_le hb hk0.size) (h.old b hb hm)).trans (hk0.block b hb hm)
  · obtain ⟨h1, o, h2, h3⟩ := (h.rel.st.own i p hp).2 hr
    exact ⟨h1, o, (same _ (lt_of_some h2) (.inl (h.own _ ⟨i, p, hp, hr, rfl⟩))).trans h2, h3⟩
theorem Cov.mono {Mu Mu' Muo : Foot} {W : World} (h : Cov P lb Φ ω Mu Muo W) (h1 : Mu'.1 = Mu.1) (h2 : ∀ b, Mu.2 b → Mu'.2 b) : Cov P lb Φ ω Mu' Muo W :=
  ⟨h.rel, fun b hb => h1 ▸ h.own b hb, fun b hb => h1 ▸ h.outer b hb, fun b hb => h.just b (h1 ▸ hb), fun b hb => (h.rely b hb).imp (fun h => h1 ▸ h) (h2 b), fun b hb hm => (h.old b hb hm).imp (fun h => h1 ▸ h) (h2 b), h.hold.kp fun b _ hb => ⟨⟨hb.1, hb.2.imp (fun h => h1 ▸ h) (h2 b)⟩, rfl⟩⟩
/-- one who yields, to a consumer that stands so behind s rounds -/
def ambC (P : Program) (ω : Amb) (S : Option Nat → LBs → Facts → Prop) (w1 : World) (A : Nat → Prop) (Mu : Foot) : Amb :=
  { M := Mu.1, w0 := w1, A := A, G := fun _ => True, Mu := Mu, N := fun b => A b ∨ Mu.1 b ∨ w1.heap.size ≤ b, free := True, hfree := fun _ => ⟨fun _ => trivial, fun _ h => h⟩, mono := fun _ _ _ _ ⟨lb, Φ, Muo, h1, h2⟩ h3 h4 => ⟨lb, Φ, Muo, h1, h2.mono h3 h4⟩
    Z := fun s Mu W => ∃ lb Φ Muo, S s lb Φ ∧ Cov P lb Φ ω Mu Muo W
    stb := fun _ _ _ _ ⟨lb, Φ, Muo, h1, h2⟩ hk => ⟨lb, Φ, Muo, h1, h2.keep hk⟩ }
/-- behind a round -/
theorem Cov.after {Mu Muo Muo' : Foot} {W W' : World} (h : Cov P lb Φ ω Mu Muo W)
    (h' : Rel P lb' Φ' ((((ω.mu Muo).round lb (fun b => (ω.mu Muo).In (sem lb) b ∧ (Mu.1 b ∨ Mu.2 b)) W)).mu Muo') W') :
    ∃ Mu' : Foot, (∀ b, Mu'.1 b → Mu.1 b ∨ W.heap.size ≤ b) ∧ (∀ b, Mu'.2 b → (Mu.1 b ∨ Mu.2 b) ∨ W.heap.size ≤ b) ∧ (∀ b, Mu'.1 b ∨ Mu'.2 b → b < W'.heap.size) ∧ Kept Mu.1 W W' ∧ Cov P lb' Φ' ω Mu' Muo' W' := by
  have hrel : Rel P lb' Φ' (ω.mu Muo') W' := h.rel.roundEnd (ω := ω.mu Muo) (fun b hb => hb.1) h'
  have hk : Kept (fun b => MuOf (sem lb) b ∨ Muo.1 b) W W' := h'.st.kept
  have hmu : ∀ b, MuOf (sem lb) b ∨ Muo.1 b → Mu.1 b := fun b hb => hb.elim (h.own b) (h.outer b)
  have own' : ∀ b, MuOf (sem lb') b → Mu.1 b ∨ W.heap.size ≤ b := by
    rintro b ⟨i, p, hp, hr, rfl⟩
    rcases ((h'.st.own i p hp).2 hr).1 with h1 | h1
    · exact .inl (hmu _ h1)
    · exact .inr h1
  have lt' : ∀ b, MuOf (sem lb') b → b < W'.heap.size := by
    rintro b ⟨i, p, hp, hr, rfl⟩
    exact hrel.st.lt hp hr
  have out' : ∀ b, Muo'.1 b ∨ Muo'.2 b → (Mu.1 b ∨ Mu.2 b) ∨ W.heap.size ≤ b := fun b hb => by
    rcases h'.muM.2 b hb with (h1 | h1) | h1
    · exact .inl (.inl (h.outer b h1))
    · exact .inl (h.rely b h1)
    · exact .inr h1
  have out1 : ∀ b, Muo'.1 b → Mu.1 b ∨ W.heap.size ≤ b := fun b hb => by
    rcases h'.muM.1 b hb with h1 | h1
    · exact .inl (hmu b h1)
    · exact .inr h1
  refine ⟨(fun b => MuOf (sem lb') b ∨ Muo'.1 b, fun b => b < W'.heap.size ∧ ((Mu.1 b ∨ Mu.2 b) ∨ W.heap.size ≤ b)), fun b hb => hb.elim (own' b) (out1 b), fun b hb => hb.2, ?_, hk.weaken fun b _ hb => hmu b hb, hrel, fun b hb => .inl hb, fun b hb => .inr hb, fun b hb => hb, fun b hb => .inr ⟨(hrel.mu b (.inr hb)).1, out' b (.inr hb)⟩, ?_, ?_⟩
  · rintro b ((hb | hb) | hb)
    · exact lt' b hb
    · exact (hrel.mu b (.inl hb)).1
    · exact hb.1
  · intro b hb hm
    exact .inr ⟨Nat.lt_of_lt_of_le hb hrel.st.size, .inl (h.old b hb hm)⟩
  · refine h'.hold.kp fun b hlt hb => ⟨⟨⟨hb.1, hb.2.1, ?_⟩, ?_⟩, rfl⟩
    · rcases hb.2.2 with h1 | h1 | h1
      · exact h1.1.2.2
      · have h2 : MuOf (sem lb) b ∨ Muo.1 b := h1
        rcases h2 with h2 | h2
        · exact .inr (h.rel.own_old h2)
        · exact .inr (h.rel.muM.1 b h2)
      · exact .inr (.inr (Nat.le_trans h.rel.st.size h1))
    · rcases hb.2.2 with h1 | h1 | h1
      · exact .inr ⟨hlt, .inl h1.2⟩
      · exact .inr ⟨hlt, .inl (.inl (hmu b h1))⟩
      · exact .inr ⟨hlt, .inr h1⟩
/-- the parameters of a round -/
def paramsK (nt : Nat) : List Tmp → List SV → Env → (Env → Prop) → Prop
  | [], [], env, k => k env
  | p :: ps, v :: vs, env, k => match Nat.blt p nt with
    | true => paramsK nt ps vs ((p, v) :: env) k
    | false => False
  | _, _, _, _ => False
theorem params_ok : ∀ {ps : List Tmp} {vs : List SV} {env : Env} {k : Env → Prop} {tmps : Array Value}, paramsK nt ps vs env k → RA nt env ds { tmps := tmps, defers := ds } →
    ps.length = vs.length ∧ ∃ env', k env' ∧ RA nt env' ds { tmps := (ps.zip (dens vs)).foldl (fun t (p, v) => t.setIfInBounds p v) tmps, defers := ds }
  | [], [], env, k, tmps, h, hra => ⟨rfl, env, h, hra⟩
  | p :: ps, v :: vs, env, k, tmps, h, hra => by
    unfold paramsK at h
    split at h
    · rename_i hp
      have h1 := hra.put (d := some p) (v := v) (q := fun env' => env' = (p, v) :: env) (by unfold putE; simp [hp])
      obtain ⟨env', h2, rfl⟩ := h1
      obtain ⟨h3, env'', h4, h5⟩ := params_ok h (tmps := tmps.setIfInBounds p v.den) h2
      exact ⟨by simp [h3], env'', h4, h5⟩
    · exact h.elim
  | [], _ :: _, _, _, _, h, _ => h.elim
  | _ :: _, [], _, _, _, h, _ => h.elim
theorem Rel.objAt (h : Rel P lb Φ ω w) {i b : Nat} {o : Obj} (hi : nth lb i = some (b, .obj o)) : w.heap[b]? = some o := by
  obtain ⟨_, o', h1, h2⟩ := (h.st.own i _ (sem_get hi)).2 trivial
  rw [← (h2 : o' = _)]; exact h1
theorem kept_putObj (W : World) (k : Nat) (o : Obj) : Kept (· = k) W (W.putObj k o) := by
  refine ⟨rfl, rfl, rfl, by simp [World.putObj], fun i _ h => ?_⟩
  exact World.putObj_heap_other (fun e => h e)
theorem Rel.putAt (h : Rel P lb Φ ω w) {i b : Nat} {o : Obj} (o' : Obj) (hi : nth lb i = some (b, .obj o)) : Rel P (lb.set i (b, .obj o')) Φ ω (w.putObj b o') :=
  h.turn hi (fun _ _ _ h => by cases h) trivial (kept_putObj w b o') rfl ⟨o', World.putObj_heap_same (lt_of_some (h.objAt hi)), rfl⟩ trivial
/-- what is asked of one round: St: how the consumer may stand behind so many rounds (none: it has left); j: where the loop's record lies; jump: what is behind a leave -/
noncomputable def roundQ (P : Program) (nt : Nat) (lp j : Nat) (assign body : Code) (env : Env) (Fin : Option Nat → Code → LBs → Facts → Prop) (n : Nat) (r1 r2 : Loop) (rj : Code → Loop) (lb : LBs) (Φ : Facts) : Prop :=
  wpC P nt (some lp) assign env [] lb Φ fun e env ds lb Φ => Ob (e = .normal ∧ nth lb j = some (lp, .obj (.loop r1))) (setK lb j (lp, .obj (.loop r2)) fun lb => wpC P nt (some lp) body env ds lb Φ fun e _ _ lb Φ =>
    Ob (nth lb j = some (lp, .obj (.loop r2))) (match e with
      | .normal => setK lb j (lp, .obj (.loop r1)) fun lb => Fin (some (n + 1)) .skip lb Φ
      | .ret => setK lb j (lp, .obj (.loop (rj .ret))) fun lb => Fin none .ret lb Φ
      | .exit i => setK lb j (lp, .obj (.loop (rj (.exit i)))) fun lb => Fin none (.exit i) lb Φ
      | .goto i => setK lb j (lp, .obj (.loop (rj (.goto i)))) fun lb => Fin none (.goto i) lb Φ
      | _ => False))
theorem wpC_map {c : Code} {Q : QT} {env : Env} {a : Act} {w : World} (h : wpC P nt ro c env ds lb Φ Q) (hra : RA nt env ds a) (hr : Rel P lb Φ ω w) {Q' : Exit → Act → World → Prop}
    (hq : ∀ e env ds lb Φ Mu a w, RA nt env ds a → Rel P lb Φ (ω.mu Mu) w → Q e env ds lb Φ → Q' e a w) : c.wpIn (FW ro) 0 P Q' a w :=
  wpIn_mono (wpC_ok h hra hr) fun e a w ⟨env, ds, lb, Φ, Mu, k1, k2, k3⟩ => hq e env ds lb Φ Mu a w k1 k2 k3
/-- one round -/
theorem round_ok {N : Nat → Prop} {Ψ : Facts} {lp j n : Nat} {assign body : Code} {env : Env} {St : Option Nat → LBs → Facts → Prop} {Fin : Option Nat → Code → LBs → Facts → Prop} (hFin : ∀ s c lb Φ, Fin s c lb Φ → ∃ lb' Φ', Imp P lb Φ lb' Φ' ∧ St s lb' Φ') {rc : LoopState → Option Code → Loop} {fn : FuncId} {ps : Array Tmp} {tmps : Array Value} {D : Nat} {Mu Muo : Foot} {x : List SV}
    (hrc : rc = fun st pe => { state := st, pending := pe, fn, tmps, params := ps, assign, body, defers := D }) (hc : Cov P lb Φ ω Mu Muo w) (hpl : plainK lb) (hh : Hold Ψ (fun b => ¬ Mu.1 b ∧ Mu.2 b ∧ N b) w) (hN : ∀ b, N b → ω.A b ∨ ω.M b ∨ ω.w0.heap.size ≤ b) (hj : nth lb j = some (lp, .obj (.loop (rc .ready none))))
    (hra : RA nt env [] { tmps := tmps, defers := [] })
    (h : paramsK nt ps.toList x env fun env => roundQ P nt lp j assign body env Fin n (rc .ready none) (rc .busy none) (fun c => rc .done (some c)) lb (Ψ ++ Φ)) :
    YR P lp (dens x).toArray w fun b W' => ∃ Mu' : Foot, (∀ b, Mu'.1 b → Mu.1 b ∨ w.heap.size ≤ b) ∧ (∀ b, Mu'.2 b → (Mu.1 b ∨ Mu.2 b) ∨ w.heap.size ≤ b) ∧ (∀ b, Mu'.1 b ∨ Mu'.2 b → b < W'.heap.size) ∧ Kept Mu.1 w W' ∧
      ∃ lb Φ Muo, St (if b then some (n + 1) else none) lb Φ ∧ Cov P lb Φ ω Mu' Muo W' := by
  obtain ⟨hlen, env', hq, hra'⟩ := params_ok h hra
  have hl := hc.rel.objAt hj
  have hy := run_yield (P := P) (args := (dens x).toArray) hl (by rw [hrc]; simp [dens_length, ← hlen])
  have hz : (ps.zip (dens x).toArray).foldl (fun t (p, v) => t.setIfInBounds p v) tmps = (ps.toList.zip (dens x)).foldl (fun t (p, v) => t.setIfInBounds p v) tmps := by
    rw [← Array.foldl_toList, Array.toList_zip]
  rw [hrc] at hy
  simp only [hz] at hy
  refine ⟨fn, _, assign, body, hy, roundIn_of_wpIn trivial ?_⟩
  have hh2 : Hold (Ψ ++ Φ) (fun b => (ω.mu Muo).In (sem lb) b ∧ (Mu.1 b ∨ Mu.2 b)) w := (hh.kp fun b _ hb => ⟨⟨⟨fun i p hp hrp e => hb.1 (hc.own b ⟨i, p, hp, hrp, e⟩), fun hm => hb.1 (hc.outer b hm), hN b hb.2.2⟩, .inr hb.2.1⟩, rfl⟩).append hc.hold
  have hrel2 : Rel P lb (Ψ ++ Φ) (ω.mu Muo) w := ⟨hc.rel.st, hh2.kp fun b _ hb => ⟨hb.1, rfl⟩, hc.rel.mu, hc.rel.muM, hc.rel.amb⟩
  have hr0 := hrel2.round hpl (S := fun b => (ω.mu Muo).In (sem lb) b ∧ (Mu.1 b ∨ Mu.2 b)) (fun b hb => hb.1) hh2
  refine wpC_map hq hra' hr0 ?_
  rintro e env1 ds1 lb1 Φ1 Mu1 a1 Wa k1 k2 ⟨⟨rfl, hj1⟩, hq1⟩
  rw [setK_eq] at hq1
  have hbr := run_beginRound (P := P) (k2.objAt hj1) (by rw [hrc])
  have erb : ({ rc .ready none with state := .busy } : Loop) = rc .busy none := by rw [hrc]
  rw [erb] at hbr
  refine ⟨_, hbr, ?_⟩
  refine wpC_map hq1 k1 (k2.putAt _ hj1) ?_
  rintro e env2 ds2 lb2 Φ2 Mu2 a2 W2 k3 k4 ⟨hj2, hq2⟩
  -- the end, by whatever jump
  have fin : ∀ (jump : Option Code) (s : Option Nat), (∃ lb' Φ', Imp P (lb2.set j (lp, .obj (.loop (rc (if jump.isNone then .ready else .done) jump)))) Φ2 lb' Φ' ∧ St s lb' Φ') →
      ∃ W4, (Instr.endRound lp jump).run P W2 = .ok (.bool jump.isNone) W4 ∧ ∃ Mu' : Foot, (∀ b, Mu'.1 b → Mu.1 b ∨ w.heap.size ≤ b) ∧ (∀ b, Mu'.2 b → (Mu.1 b ∨ Mu.2 b) ∨ w.heap.size ≤ b) ∧ (∀ b, Mu'.1 b ∨ Mu'.2 b → b < W4.heap.size) ∧ Kept Mu.1 w W4 ∧
        ∃ lb Φ Muo, St s lb Φ ∧ Cov P lb Φ ω Mu' Muo W4 := by
    rintro jump s ⟨lb', Φ', him, hst⟩
    have he := run_endRound (P := P) jump (k4.objAt hj2)
    have ere : ({ rc .busy none with state := if jump.isNone then .ready else .done, pending := jump } : Loop) = rc (if jump.isNone then .ready else .done) jump := by rw [hrc]
    rw [ere] at he
    have k5 := him _ _ (k4.putAt (.loop (rc (if jump.isNone then .ready else .done) jump)) hj2)
    obtain ⟨Mu', g1, g2, g3, g4, g5⟩ := hc.after k5
    exact ⟨_, he, Mu', g1, g2, g3, g4, _, _, _, hst, g5⟩
  cases e with
  | normal =>
    dsimp only at hq2; rw [setK_eq] at hq2
    obtain ⟨W4, h1, h2⟩ := fin none (some (n + 1)) (hFin _ _ _ _ hq2)
    exact ⟨_, W4, h1, true, rfl, h2⟩
  | ret =>
    dsimp only at hq2; rw [setK_eq] at hq2
    obtain ⟨W4, h1, h2⟩ := fin (some .ret) none (hFin _ _ _ _ hq2)
    exact ⟨_, W4, h1, false, rfl, h2⟩
  | exit i =>
    dsimp only at hq2; rw [setK_eq] at hq2
    obtain ⟨W4, h1, h2⟩ := fin (some (.exit i)) none (hFin _ _ _ _ hq2)
    exact ⟨_, W4, h1, false, rfl, h2⟩
  | goto i =>
    dsimp only at hq2; rw [setK_eq] at hq2
    obtain ⟨W4, h1, h2⟩ := fin (some (.goto i)) none (hFin _ _ _ _ hq2)
    exact ⟨_, W4, h1, false, rfl, h2⟩
  | panic c => exact hq2.elim
  | outgrown => exact hq2.elim
end Go.Proofs.YtikjigkkhdkibaaGreatDoor.W

/- Ranges over functions: the whole loop. Over any program. -/
namespace Go.Proofs.YtikjigkkhdkibaaGreatDoor.W
open Go.RowKit
variable {P : Program} {nt : Nat} {ro : Option Nat} {env env' : Env} {ds : List Deferred} {lb lb' : LBs} {Φ Φ' : Facts} {ω : Amb} {A : Nat → Prop} {w : World} {E : Operand → Value}
def markD (D : Nat) : Deferred := ⟨.collected D, #[]⟩
theorem SemC.range {Q : QT} {gO : Operand} {ps : Array Tmp} {assign body : Code} {gf : FuncId} {caps : List SV} {Φ0 : Facts} {X : List PubI} {R : LBs → Facts → Prop} (j : Nat)
    (hIt : It P gf [] caps Φ0 X R) (hg : evS env gO fun v => v.den = (SV.fn gf [] caps).den) (hfn : isFn P gf)
    (S : Nat → (LoopState → Option Code → Loop) → Option Nat → LBs → Facts → Prop) (Fin : Nat → (LoopState → Option Code → Loop) → Option Nat → Code → LBs → Facts → Prop) (hFin : ∀ D rc s c lb Φ, Fin D rc s c lb Φ → ∃ lb' Φ', Imp P lb Φ lb' Φ' ∧ S D rc s lb' Φ')
    (h0 : ∀ D rc, ∃ lb' Φ', Imp P (lb ++ [(D, .obj (.deferred (some []))), (D + 1, .obj (.loop (rc .ready none)))]) Φ lb' Φ' ∧ S D rc (some 0) lb' Φ' ∧ ∀ F ∈ Φ0, F ∈ Φ')
    (hround : ∀ D rc n lb Φ (I : PubI) (y : I.β), S D rc (some n) lb Φ → X[n]? = some I → I.pr y → plainK lb ∧ nth lb j = some (D + 1, .obj (.loop (rc .ready none))) ∧
      paramsK nt ps.toList (I.enc y) env fun env => roundQ P nt (D + 1) j assign body env (Fin D rc) n (rc .ready none) (rc .busy none) (fun c => rc .done (some c)) lb (I.fs y ++ Φ))
    (hdone : ∀ D rc lb Φ, S D rc (some X.length) lb Φ → nth lb j = some (D + 1, .obj (.loop (rc .ready none))) ∧ ∀ o, setK lb j (D + 1, .obj o) fun lb => Q .normal env (markD D :: ds) lb Φ)
    (hstop : ∀ D rc lb Φ, S D rc none lb Φ → ∃ c, nth lb j = some (D + 1, .obj (.loop (rc .done (some c)))) ∧ ∀ o, setK lb j (D + 1, .obj o) fun lb => wpC P nt none c env (markD D :: ds) lb Φ Q) :
    SemC P nt none (.rangeFunc gO ps assign body) env ds lb Φ Q := by
  refine ⟨fun ω a w hra hr => wpIn_rangeFunc ?_⟩
  intro fn _
  obtain ⟨rc, hrc⟩ : ∃ rc : LoopState → Option Code → Loop, rc = fun st pe => { state := st, pending := pe, fn, tmps := a.tmps, params := ps, assign, body, defers := w.heap.size } := ⟨_, rfl⟩
  obtain ⟨D, hD⟩ : ∃ D, w.heap.size = D := ⟨_, rfl⟩
  obtain ⟨W1, hW1⟩ : ∃ W1, (w.alloc (.deferred (some []))).alloc (.loop (rc .ready none)) = W1 := ⟨_, rfl⟩
  have hsz : (w.alloc (.deferred (some []))).heap.size = D + 1 := by rw [World.size_alloc, hD]
  have hr1 : Rel P (lb ++ [(D, .obj (.deferred (some []))), (D + 1, .obj (.loop (rc .ready none)))]) Φ ω W1 := by
    have h1 := hr.alloc (o := .deferred (some [])) (b := .obj (.deferred (some []))) (fun _ _ _ h => by cases h) rfl rfl trivial
    have h2 := h1.alloc (o := .loop (rc .ready none)) (b := .obj (.loop (rc .ready none))) (fun _ _ _ h => by cases h) rfl rfl trivial
    rw [hsz, hD, hW1, List.append_assoc] at h2
    exact h2
  obtain ⟨lb1, Φ1, him, hS0, hΦ0⟩ := h0 D rc
  have hr2 := him _ _ hr1
  obtain ⟨v, hv, hgv⟩ := evS_ok hra.ev hg
  have hgv' : a.eval gO = .func (.func gf) #[] (dens caps).toArray := by rw [hv, hgv]; simp [SV.den, dens]
  -- the blocks that there are
  have hcov : Cov P lb1 Φ1 ω (fun b => MuOf (sem lb1) b ∨ ω.Mu.1 b, fun b => b < W1.heap.size) ω.Mu W1 := by
    refine ⟨hr2, fun b hb => .inl hb, fun b hb => .inr hb, fun b hb => hb, fun b hb => .inr (hr2.mu b (.inr hb)).1, fun b hb _ => .inr (Nat.lt_of_lt_of_le hb hr2.st.size), hr2.hold.kp fun b hlt hb => ⟨⟨hb, .inr hlt⟩, rfl⟩⟩
  obtain ⟨Mu, hMu⟩ : ∃ Mu : Foot, Mu = (fun b => MuOf (sem lb1) b ∨ ω.Mu.1 b, fun b => b < W1.heap.size) := ⟨_, rfl⟩
  rw [← hMu] at hcov
  have hit : Rel P [(0, .seq (D + 1) X (some 0))] Φ0 (ambC P ω (S D rc) W1 (ω.In (sem lb1)) Mu) W1 := by
    refine ⟨⟨Kept.refl _ _, ?_, ?_⟩, ?_, ?_, ⟨fun b hb => .inl hb, fun b hb => .inl trivial⟩, ?_⟩
    · intro i k p q hp _ hrp
      cases i with
      | zero => cases hp; exact hrp.elim
      | succ i => simp [sem] at hp
    · intro i p hp
      cases i with
      | zero => cases hp; exact ⟨trivial, fun h => h.elim⟩
      | succ i => simp [sem] at hp
    · intro F hF
      refine F.stb _ _ _ _ ?_ (hr2.hold F (hΦ0 F hF))
      intro b _ hb
      refine ⟨⟨?_, ?_, .inl hb⟩, rfl⟩
      · intro i p hp hrp
        cases i with
        | zero => cases hp; exact hrp.elim
        | succ i => simp [sem] at hp
      · show ¬ Mu.1 b
        rw [hMu]
        rintro (⟨i, p, hp, hrp, e⟩ | hm)
        · exact hb.1 i p hp hrp e
        · exact hb.2.1 hm
    · intro b hb
      refine ⟨?_, ?_⟩
      · rw [show (ambC P ω (S D rc) W1 (ω.In (sem lb1)) Mu).Mu = Mu from rfl, hMu] at hb
        rcases hb with (⟨i, p, hp, hrp, rfl⟩ | hb) | hb
        · exact hr2.st.lt hp hrp
        · exact (hr2.mu b (.inl hb)).1
        · exact hb
      · intro i p hp hrp
        cases i with
        | zero => cases hp; exact hrp.elim
        | succ i => simp [sem] at hp
    · intro b lp xs s hi
      cases hi
      refine ⟨⟨lb1, Φ1, ω.Mu, hS0, hcov⟩, ?_⟩
      refine ⟨?_, .inr trivial⟩
      intro n Mu' W I y hx hy hz hh
      obtain ⟨lbn, Φn, Muo, hSn, hcn⟩ := hz
      obtain ⟨hpl, hj, hp⟩ := hround D rc n lbn Φn I y hSn hx hy
      have hN : ∀ b, (ω.In (sem lb1) b ∨ Mu.1 b ∨ W1.heap.size ≤ b) → ω.A b ∨ ω.M b ∨ ω.w0.heap.size ≤ b := by
        rintro b (hb | hb | hb)
        · exact hb.2.2
        · rw [hMu] at hb
          exact .inr (hb.elim (fun h => hr2.own_old h) (hr2.muM.1 b))
        · exact .inr (.inr (Nat.le_trans hr2.st.size hb))
      exact round_ok (hFin D rc) hrc hcn hpl hh hN hj (show RA nt env [] { tmps := a.tmps, defers := [] } from ⟨hra.size, hra.slot, rfl⟩) hp
  refine ⟨D + 1, [⟨.collected D, #[]⟩], W1, { target := .fn (.func gf) (dens caps).toArray, args := #[.func (.yield (D + 1)) #[] #[]] }, W1, gf, #[.func (.yield (D + 1)) #[] #[]] ++ (dens caps).toArray, W1, ?_, ?_, ?_, ?_, fun h => (by cases h), ?_⟩
  · have h1 := run_enterLoop_outer (P := P) (w := w) fn a.tmps ps assign body
    rw [hD] at h1
    rw [← hW1, hrc]
    simpa [FW, hD] using h1
  · simp only [resolve]
    simp only [hgv', Deferred.ofValue]
    simp [Act.eval]
  · intro f' _; trivial
  · have hfn' : ∀ args w, (callFunc gf args).run P w = .ok (.enter gf args) w := hfn
    simp [invoke, hfn']
  have hcall := hIt.h (D + 1) _ W1 hit
  have e0 : (dens (.yld (D + 1) :: caps)).toArray = #[.func (.yield (D + 1)) #[] #[]] ++ (dens caps).toArray := by simp [dens, SV.den]
  rw [e0] at hcall
  refine callsIn_FW (Calls.mono hcall ?_)
  rintro e W' ⟨v, s, Mu', lbi, Φi, rfl, hs, hri, _⟩
  obtain ⟨⟨lbn, Φn, Muo, hSn, hcn⟩, _⟩ := hri.amb 0 (D + 1) X s rfl
  have fin : ∀ (r : Loop) (pend : Option Code), nth lbn j = some (D + 1, .obj (.loop r)) → r.state ≠ .busy → r.pending = pend →
      ∃ W4 o, (Instr.endLoop (D + 1)).run P W' = .ok pend W4 ∧ Rel P (lbn.set j (D + 1, .obj o)) Φn (ω.mu Muo) W4 := by
    intro r pend hj hb hp
    have he := run_endLoop (P := P) (hcn.rel.objAt hj) hb
    rw [hp] at he
    exact ⟨_, _, he, hcn.rel.putAt _ hj⟩
  have hra2 : RA nt env (markD D :: ds) { a with defers := [⟨.collected D, #[]⟩] ++ a.defers } := ⟨hra.size, hra.slot, by rw [← hra.defs]; rfl⟩
  rcases hs with rfl | rfl
  · obtain ⟨c, hj, hq⟩ := hstop D rc lbn Φn hSn
    obtain ⟨W4, o, h1, h2⟩ := fin _ (some c) hj (by rw [hrc]; simp) (by rw [hrc])
    have h3 := hq o
    rw [setK_eq] at h3
    exact ⟨some c, W4, h1, wpC_ok (ω := ω.mu Muo) h3 hra2 h2⟩
  · obtain ⟨hj, hq⟩ := hdone D rc lbn Φn hSn
    obtain ⟨W4, o, h1, h2⟩ := fin _ none hj (by rw [hrc]; simp) (by rw [hrc])
    have h3 := hq o
    rw [setK_eq] at h3
    exact ⟨none, W4, h1, _, _, _, _, Muo, hra2, h2, h3⟩
end Go.Proofs.YtikjigkkhdkibaaGreatDoor.W
namespace Go.Proofs.YtikjigkkhdkibaaGreatDoor.W
open Go.RowKit
/-- the end of a function that has ranged over functions: mark by mark -/
theorem EndS.mark {P : Program} {fn : Func} {rs : List ResultVar} {env : Env} {ds : List Deferred} {lb : LBs} {Φ : Facts} {R : SV → LBs → Facts → Prop} {D : Nat} (i : Nat) (hrs : fn.results.toList = rs) (hi : nth lb i = some (D, .obj (.deferred (some []))))
    (h : ∀ o, setK lb i (D, .obj o) fun lb => match ds with
      | [] => resW P env lb Φ rs fun vs => R (resS vs) lb Φ
      | d :: ds => EndS P fn env (d :: ds) lb Φ R) : EndS P fn env (markD D :: ds) lb Φ R := by
  refine ⟨fun ω a w nt hra hr => ?_⟩
  have h1 := run_takeDeferred (P := P) (hr.objAt hi)
  have hr2 := hr.putAt (.deferred none) hi
  have h2 := h (.deferred none)
  rw [setK_eq] at h2
  refine ⟨by simp, .inl ⟨D, _, rfl, h1, ?_⟩⟩
  cases ds with
  | nil =>
    obtain ⟨vs, hk, hv⟩ := results_ok hrs hra hr2 h2
    exact ⟨_, hv, _, _, _, ω.Mu, rfl, hk, hr2⟩
  | cons d ds => exact h2.h ω { a with defers := d :: ds } _ nt ⟨hra.size, hra.slot, rfl⟩ hr2
end Go.Proofs.YtikjigkkhdkibaaGreatDoor.W

/- More rules: calls in short, loops that keep slots by themselves, rows of bytes, structs held against structs. Over any program. -/
namespace Go.Proofs.YtikjigkkhdkibaaGreatDoor.W
open Go.RowKit
variable {P : Program} {nt : Nat} {ro : Option Nat} {env env' : Env} {ds : List Deferred} {lb lb' : LBs} {Φ Φ' : Facts} {ω : Amb} {A : Nat → Prop} {w : World} {E : Operand → Value}
variable {d : Option Tmp} {ty : TypeId} {pos : String} {af : Array Edge} {g : Option (Nat × Bool)} {kp : Kp} {q : SV → LBs → Facts → Prop}
/-! ### calls -/
theorem EnvLe.nil : EnvLe env [] := trivial
theorem EnvLe.cons {t : Nat} {u v : SV} {r : Env} (h : W.lkp env t = some u) (hu : u.den = v.den) (hr : EnvLe env r) : EnvLe env ((t, v) :: r) := by
  refine ⟨?_, hr⟩
  simp only [h]
  exact hu
/-- these facts are among those -/
def SubK : Facts → Facts → Prop
  | [], _ => True
  | F :: r, Φ => F ∈ Φ ∧ SubK r Φ
theorem SubK.nil : SubK [] Φ := trivial
theorem SubK.cons {F : Fact} {r : Facts} (h : F ∈ Φ) (hr : SubK r Φ) : SubK (F :: r) Φ := ⟨h, hr⟩
theorem SubK.ok : ∀ {Ψ Φ : Facts}, SubK Ψ Φ → ∀ F ∈ Ψ, F ∈ Φ
  | [], _, _, _, h => by cases h
  | _ :: _, _, hs, _, h => by
    cases h with
    | head => exact hs.1
    | tail _ h => exact SubK.ok hs.2 _ h
theorem CallK.ct {f : FuncId} {args args' : List SV} {Φ0 : Facts} {R : SV → LBs → Facts → Prop} (h : Ct P f [] args' Φ0 R) (ha : dens args' = dens args) (hΦ : SubK Φ0 Φ)
    (hq : ∀ r bs Ψ, R r bs Ψ → noSeq bs = true ∧ appK lb bs fun lb' => appK Ψ Φ fun Φ' => q r lb' Φ') (hf : isFn P f := by exact fun _ _ => rfl) : CallK P kp f args lb Φ q := ⟨.inl ⟨hf, CallS.ct h ha hΦ.ok hq⟩⟩
theorem CallK.rs {f : FuncId} {args : List SV} {Φ0 : Facts} {β : Type} {res : β → SV} {bs : β → LBs} {fs : β → Facts} {pr : β → Prop} (h : Ct P f [] args Φ0 (Rs res bs fs pr)) (hΦ : SubK Φ0 Φ)
    (hq : ∀ x, pr x → noSeq (bs x) = true ∧ appK lb (bs x) fun lb' => appK (fs x) Φ fun Φ' => q (res x) lb' Φ') (hf : isFn P f := by exact fun _ _ => rfl) : CallK P kp f args lb Φ q := ⟨.inl ⟨hf, CallS.rs h hΦ.ok hq⟩⟩
/-- the callee hands back facts alone -/
theorem CallK.rf {f : FuncId} {args : List SV} {Φ0 : Facts} {β : Type} {res : β → SV} {fs : β → Facts} {pr : β → Prop} (h : Ct P f [] args Φ0 (Rs res (fun _ => []) fs pr)) (hΦ : SubK Φ0 Φ)
    (hq : ∀ x, pr x → appK (fs x) Φ fun Φ' => q (res x) lb Φ') (hf : isFn P f := by exact fun _ _ => rfl) : CallK P kp f args lb Φ q := CallK.rs h hΦ (fun x hx => ⟨rfl, by rw [appK_eq, List.append_nil]; exact hq x hx⟩) hf
theorem CallK.rv {f : FuncId} {args : List SV} {Φ0 : Facts} {v : SV} (h : Ct P f [] args Φ0 (Rv v)) (hΦ : SubK Φ0 Φ) (hq : q v lb Φ) (hf : isFn P f := by exact fun _ _ => rfl) : CallK P kp f args lb Φ q := ⟨.inl ⟨hf, CallS.rv h hΦ.ok hq⟩⟩
theorem CallK.lend {f : FuncId} {args args' : List SV} {Φ0 : Facts} {bs : LBs} {R : SV → LBs → Facts → Prop} (is : List Nat) (h : Ct P f bs args' Φ0 R) (hp : picks lb is bs) (hns : noSeq bs = true) (hn : nodupB is = true) (ha : dens args' = dens args) (hΦ : SubK Φ0 Φ)
    (hq : ∀ r bs' Ψ, R r bs' Ψ → noSeq bs' = true ∧ mergeK is bs' lb fun lb' => appK Ψ Φ fun Φ' => q r lb' Φ') (hf : isFn P f := by exact fun _ _ => rfl) : CallK P none f args lb Φ q := ⟨.inl ⟨hf, CallS.lend is h hp hns hn ha hΦ.ok hq⟩⟩
/-- the callee is lent blocks of one's own; so and so it hands back -/
theorem CallK.lendS {f : FuncId} {args args' : List SV} {Φ0 : Facts} {bs : LBs} {β : Type} {res : β → SV} {bo : β → LBs} {fs : β → Facts} {pr : β → Prop} (is : List Nat) (h : Ct P f bs args' Φ0 (Rs res bo fs pr)) (hp : picks lb is bs) (hns : noSeq bs = true) (hn : nodupB is = true) (ha : dens args' = dens args) (hΦ : SubK Φ0 Φ)
    (hq : ∀ x, pr x → noSeq (bo x) = true ∧ mergeK is (bo x) lb fun lb' => appK (fs x) Φ fun Φ' => q (res x) lb' Φ') (hf : isFn P f := by exact fun _ _ => rfl) : CallK P none f args lb Φ q :=
  CallK.lend is h hp hns hn ha hΦ (fun _ _ _ ⟨x, h1, h2, h3, h4⟩ => by subst h1 h2 h3; exact hq x h4) hf
theorem CallK.ext {f : FuncId} {args : List SV} (v : SV) (hx : ∀ w, ∃ w', (callFunc f (dens args).toArray).run P w = .ok (.value v.den) w' ∧ Kept No w w') (hq : q v lb Φ) : CallK P kp f args lb Φ q := ⟨.inr ⟨v, hq, hx⟩⟩
theorem InvK.mk' {t : TypeId} {name : String} {v : SV} {q : FuncId → SV → Prop} (f : FuncId) (r : SV) (h : ∀ w, (Go.method (P.types.size + Made.depth) t v.den name).run P w = .ok (f, r.den) w) (hq : q f r) : InvK P t name v q := ⟨f, r, hq, h⟩
/-! ### ends -/
theorem Rs.post {β : Type} {res : β → SV} {bs : β → LBs} {fs : β → Facts} {pr : β → Prop} {v : SV} (x : β) (hv : v.den = (res x).den) (hi : Imp P lb Φ (bs x) (fs x)) (hp : pr x) : Post P (Rs res bs fs pr) v lb Φ := ⟨res x, bs x, fs x, hv, hi, x, rfl, rfl, rfl, hp⟩
theorem Imp.to (n : Nat) (h1 : lb' = lb.take n) (h2 : SubK Φ' Φ) : Imp P lb Φ lb' Φ' := h1 ▸ (Imp.take n).trans (Imp.facts h2.ok)
theorem Imp.fs (h2 : SubK Φ' Φ) : Imp P lb Φ [] Φ' := Imp.to 0 rfl h2
/-- a block of cells, its cells said otherwise -/
theorem Imp.recell (i : Nat) {b : Nat} {cs cs' : List SV} {t : TypeId} (hi : nth lb i = some (b, .cells cs t)) (hd : dens cs = dens cs') : Imp P lb Φ (lb.set i (b, .cells cs' t)) Φ := fun ω w hr => by
  have hg := sem_get hi
  have he : ent (b, .cells cs' t) = ent (b, .cells cs t) := by simp only [ent, hd]
  have hs : sem (lb.set i (b, .cells cs' t)) = sem lb := by
    rw [sem_set, he]
    obtain ⟨hlt, heq⟩ := List.getElem?_eq_some_iff.1 hg
    rw [← heq]
    exact List.set_getElem_self hlt
  refine ⟨by rw [hs]; exact hr.st, by rw [hs]; exact hr.hold, by rw [hs]; exact hr.mu, hr.muM, fun b' lp xs s hi' => ?_⟩
  rcases nth_set hi hi' with h | h
  · exact hr.amb _ _ _ _ h
  · cases h
/-- a block of cells is given up -/
theorem Imp.pubCells (i : Nat) {b : Nat} {cs : List SV} {t : TypeId} (hi : nth lb i = some (b, .cells cs t)) :
    Imp P lb Φ (lb.set i (b, .hole)) (blkF b cs t :: Φ) := fun ω w hr => by
  have g1 := hr.cells hi
  have hg := sem_get hi
  have hb : (ent (b, .hole)).real → (ent (b, .hole)).b = (ent (b, .cells cs t)).b ∧ (ent (b, .cells cs t)).real := fun h => h.elim
  refine hr.move ?_ ?_ ?_ (Kept.refl _ _) ?_
  · rw [sem_set]
    exact hr.st.put hg hb (fun _ _ _ => trivial) (fun _ => trivial)
  rotate_left
  · rw [sem_set]; exact Tr.put hg hb
  · intro b' lp xs s hi'
    rcases nth_set hi hi' with h | h
    · exact h
    · cases h
  · rw [sem_set]
    refine Hold.cons ⟨⟨?_, ?_, ?_⟩, g1⟩ (hr.hold.kp (KP.trω (Tr.put hg hb)))
    · intro j p hq hreal' e
      rcases get_set hg hq with ⟨rfl, rfl⟩ | ⟨hne, hq⟩
      · exact hreal'.elim
      · exact hne (hr.st.inj _ _ _ _ hq hg hreal' trivial (by rw [e]; rfl))
    · exact fun hm => (hr.notMu hi trivial).1 hm
    · rcases ((hr.st.own _ _ hg).2 trivial).1 with h | h
      · exact .inr (.inl h)
      · exact .inr (.inr h)
/-- what facts say of numbers -/
theorem Ct.pure {f : FuncId} {bs : LBs} {args : List SV} {R : SV → LBs → Facts → Prop} {p : Prop} {F : Fact} (hm : F ∈ Φ) (hp : ∀ A w, F.F A w → p) (h : p → Ct P f bs args Φ R) : Ct P f bs args Φ R := ⟨fun M A w hr => (h (hp _ _ (hr.hold F hm))).h M A w hr⟩
theorem slF_len {α : Type} {enc : α → List SV} {k n c : Nat} {p : Option Addr} {L : List α} (A : Nat → Prop) (w : World) (h : (slF enc k p n c L).F A w) : L.length = n ∧ n ≤ c ∧ c ≤ 9223372036854775807 ∧ ∀ x ∈ L, okE enc k x := ⟨h.2.1, h.2.2.cap, h.2.2.small, h.1⟩
theorem Ct.len {f : FuncId} {bs : LBs} {args : List SV} {R : SV → LBs → Facts → Prop} {α : Type} {enc : α → List SV} {k n c : Nat} {p : Option Addr} {L : List α} (hm : slF enc k p n c L ∈ Φ) (h : L.length ≤ 9223372036854775807 → Ct P f bs args Φ R) : Ct P f bs args Φ R :=
  Ct.pure hm slF_len fun hp => h (by omega)
/-! ### loops -/
/-- the slots that code turns -/
def asg : Code → List Nat
  | .region _ ops _ => ops.toList.filterMap (·.dst)
  | .seq a b => asg a ++ asg b
  | .cond _ a b => asg a ++ asg b
  | .block _ a => asg a
  | .loop a => asg a
  | .scope a => asg a
  | .rangeFunc _ ps a b => ps.toList ++ asg a ++ asg b
  | _ => []
/-- the slots that are not among these -/
def keepE (ns : List Nat) : Env → Env
  | [] => []
  | (t, v) :: r => match memN t ns with
    | true => keepE ns r
    | false => (t, v) :: keepE (t :: ns) r
def keepK (ns : List Nat) : Env → (Env → Prop) → Prop
  | [], k => k []
  | (t, v) :: r, k => match memN t ns with
    | true => keepK ns r k
    | false => keepK (t :: ns) r fun e => k ((t, v) :: e)
theorem keepK_eq {ns : List Nat} {e : Env} {k : Env → Prop} : keepK ns e k = k (keepE ns e) := by
  induction e generalizing ns k with
  | nil => rfl
  | cons x e ih =>
    obtain ⟨t, v⟩ := x
    simp only [keepK, keepE]
    cases memN t ns <;> simp [ih]
/-- what comes next -/
structure Nx (p : Prop) : Prop where
  go : p
/-- what a loop is to be shown: U: the slots that turn, in a round of x -/
structure LoopQ (P : Program) (nt : Nat) (ro : Option Nat) (c : Code) (Q : QT) (ds : List Deferred) (env : Env) (lb : LBs) (Φ : Facts) {ι : Type} (U : ι → Env) (B : ι → LBs) (F : ι → Facts) (I : ι → Prop) (μ : ι → Nat) (x0 : ι) (env0 : Env) : Prop where
  h0 : I x0
  hl : Le P env lb Φ (U x0 ++ env0) (B x0) (F x0)
  round : ∀ x, I x → Nx (appK (U x) env0 fun env => wpC P nt ro c env ds (B x) (F x) fun e env ds' lb Φ => match e with
      | .normal => ∃ y, I y ∧ μ y < μ x ∧ ds' = ds ∧ Le P env lb Φ (U y ++ env0) (B y) (F y)
      | e => Q e env ds' lb Φ)
theorem SemC.loopU {c : Code} {Q : QT} {ι : Type} (U : ι → Env) (B : ι → LBs) (F : ι → Facts) (I : ι → Prop) (μ : ι → Nat) (x0 : ι) (h : keepK (asg c) env fun env0 => LoopQ P nt ro c Q ds env lb Φ U B F I μ x0 env0) : SemC P nt ro (.loop c) env ds lb Φ Q := by
  rw [keepK_eq] at h
  refine SemC.loop (fun x => U x ++ keepE (asg c) env) B F I μ x0 h.h0 h.hl fun x hx => ?_
  have h1 := (h.round x hx).go
  rw [appK_eq] at h1
  exact h1
/-- blocks and facts stay -/
theorem SemC.loopC {c : Code} {Q : QT} {ι : Type} (U : ι → Env) (I : ι → Prop) (μ : ι → Nat) (x0 : ι) (h : keepK (asg c) env fun env0 => LoopQ P nt ro c Q ds env lb Φ U (fun _ => lb) (fun _ => Φ) I μ x0 env0) : SemC P nt ro (.loop c) env ds lb Φ Q := SemC.loopU U _ _ I μ x0 h
/-- facts stay -/
theorem SemC.loopB {c : Code} {Q : QT} {ι : Type} (U : ι → Env) (B : ι → LBs) (I : ι → Prop) (μ : ι → Nat) (x0 : ι) (h : keepK (asg c) env fun env0 => LoopQ P nt ro c Q ds env lb Φ U B (fun _ => Φ) I μ x0 env0) : SemC P nt ro (.loop c) env ds lb Φ Q := SemC.loopU U _ _ I μ x0 h
/-- the first n blocks stay, facts stay -/
theorem SemC.loopN {c : Code} {Q : QT} {ι : Type} (U : ι → Env) (B : LBs → ι → LBs) (I : ι → Prop) (μ : ι → Nat) (x0 : ι) (h : keepK (asg c) env fun env0 => LoopQ P nt ro c Q ds env lb Φ U (B lb) (fun _ => Φ) I μ x0 env0) : SemC P nt ro (.loop c) env ds lb Φ Q := SemC.loopU U _ _ I μ x0 h
/-! ### structs held against structs -/
section
variable (P)
noncomputable def eqF (e : TypeId → SV → SV → (Bool → Prop) → Prop) (fs : List Field) (l l' : List SV) : (Bool → Prop) → Prop :=
  List.rec (motive := fun _ => (Bool → Prop) → Prop) (fun q => q true) (fun f _ ih q => readAt P f.type l f.offset fun u => readAt P f.type l' f.offset fun v => e f.type u v fun b => ih fun b' => q (b && b')) fs
noncomputable def eqV (n : Nat) : TypeId → SV → SV → (Bool → Prop) → Prop :=
  Nat.rec (motive := fun _ => TypeId → SV → SV → (Bool → Prop) → Prop) (fun _ _ _ _ => False) (fun _ ih t u v q => match u, v with
    | .int k a, .int k' b => match P.underlying t, decide (k = k') with
      | some (.int _), true => q (a == b)
      | _, _ => False
    | .str a, .str b => match P.underlying t with
      | some .string => q (decide (a = b))
      | _ => False
    | .bool a, .bool b => match P.underlying t with
      | some .bool => q (a == b)
      | _ => False
    | .agg l, .agg l' => match P.underlying t with
      | some (.struct fs) => Ob (P.stoodInHeld t = false ∧ (fs.toList.all fun f => f.name != "_") = true) (arrK fs fun fs => eqF P ih fs l l' q)
      | _ => False
    | _, _ => False) n
theorem eqF_c {e : TypeId → SV → SV → (Bool → Prop) → Prop} {f : Field} {fs : List Field} {l l' : List SV} {q : Bool → Prop} : eqF P e (f :: fs) l l' q = readAt P f.type l f.offset fun u => readAt P f.type l' f.offset fun v => e f.type u v fun b => eqF P e fs l l' fun b' => q (b && b') := rfl
theorem eqV_s {n : Nat} {t : TypeId} {u v : SV} {q : Bool → Prop} : eqV P (n + 1) t u v q = match u, v with
    | .int k a, .int k' b => match P.underlying t, decide (k = k') with
      | some (.int _), true => q (a == b)
      | _, _ => False
    | .str a, .str b => match P.underlying t with
      | some .string => q (decide (a = b))
      | _ => False
    | .bool a, .bool b => match P.underlying t with
      | some .bool => q (a == b)
      | _ => False
    | .agg l, .agg l' => match P.underlying t with
      | some (.struct fs) => Ob (P.stoodInHeld t = false ∧ (fs.toList.all fun f => f.name != "_") = true) (arrK fs fun fs => eqF P (eqV P n) fs l l' q)
      | _ => False
    | _, _ => False := rfl
end
inductive Fa2 {α β : Type} (R : α → β → Prop) : List α → List β → Prop where
  | nil : Fa2 R [] []
  | cons {a : α} {b : β} {l : List α} {m : List β} : R a b → Fa2 R l m → Fa2 R (a :: l) (b :: m)
theorem eqLoop {n : Nat} {l l' : List SV} {fs : List Field} {bs : List Bool} (w : World)
    (h : Fa2 (fun (f : Field) (b : Bool) => ∃ u v : SV, (part f.type (dens l).toArray f.offset).run P w = .ok u.den w ∧ (part f.type (dens l').toArray f.offset).run P w = .ok v.den w ∧ (Op.equalIn n f.type u.den v.den).run P w = .ok b w) fs bs) (hn : (fs.all fun f => f.name != "_") = true) :
    (forIn (m := Sem) fs ((none, ()) : Option Bool × Unit) fun f _ =>
        if f.name = "_" then pure (ForInStep.yield (none, ()))
        else do
          let a ← part f.type (dens l).toArray f.offset
          let b ← part f.type (dens l').toArray f.offset
          let c ← Op.equalIn n f.type a b
          if c = false then pure (ForInStep.done (some false, ())) else pure (ForInStep.yield (none, ()))).run P w = .ok (if bs.all id then (none, ()) else (some false, ())) w := by
  induction h with
  | nil => simp
  | cons h1 h2 ih =>
    rename_i f b fs bs
    obtain ⟨u, v, g1, g2, g3⟩ := h1
    simp only [List.all_cons, Bool.and_eq_true] at hn
    have hne : ¬ f.name = "_" := by simpa using hn.1
    simp only [List.forIn_cons, hne, ↓reduceIte, Sem.run_bind, g1, g2, g3, Result.andThen]
    cases b with
    | true => simpa [Result.andThen] using ih hn.2
    | false => simp
theorem eqF_ok {e : TypeId → SV → SV → (Bool → Prop) → Prop} {n : Nat} (he : ∀ t u v q, e t u v q → ∃ b, q b ∧ ∀ w, (Op.equalIn n t u.den v.den).run P w = .ok b w) : ∀ {fs : List Field} {l l' : List SV} {q : Bool → Prop}, eqF P e fs l l' q →
    ∃ bs : List Bool, q (bs.all id) ∧ ∀ w, Fa2 (fun (f : Field) (b : Bool) => ∃ u v : SV, (part f.type (dens l).toArray f.offset).run P w = .ok u.den w ∧ (part f.type (dens l').toArray f.offset).run P w = .ok v.den w ∧ (Op.equalIn n f.type u.den v.den).run P w = .ok b w) fs bs
  | [], _, _, q, h => ⟨[], h, fun _ => .nil⟩
  | f :: fs, l, l', q, h => by
    rw [eqF_c] at h
    obtain ⟨u, hu, h⟩ := readAt_ok h
    obtain ⟨v, hv, h⟩ := readAt_ok h
    obtain ⟨b, h, hb⟩ := he _ _ _ _ h
    obtain ⟨bs, hq, hbs⟩ := eqF_ok he h
    exact ⟨b :: bs, by simpa using hq, fun w => .cons ⟨u, v, hu.part, hv.part, hb w⟩ (hbs w)⟩
theorem eqV_ok : ∀ {n : Nat} {t : TypeId} {u v : SV} {q : Bool → Prop}, eqV P n t u v q → ∃ b, q b ∧ ∀ m w, (Op.equalIn (n + m) t u.den v.den).run P w = .ok b w
  | 0, _, _, _, _, h => h.elim
  | n + 1, t, u, v, q, h => by
    rw [eqV_s] at h
    split at h
    · rename_i k a k' b
      split at h
      · rename_i hu hk
        obtain rfl : k = k' := by simpa using hk
        exact ⟨_, h, fun m w => by rw [Nat.add_right_comm]; simp [Op.equalIn, tUnd hu, SV.den]⟩
      · exact h.elim
    · rename_i a b
      split at h
      · rename_i hu
        refine ⟨_, h, fun m w => ?_⟩
        rw [Nat.add_right_comm]
        have e : ((⟨a.toArray⟩ : ByteArray) == ⟨b.toArray⟩) = decide (a = b) := by
          have e2 : ((⟨a.toArray⟩ : ByteArray) == ⟨b.toArray⟩) = (a.toArray == b.toArray) := rfl
          rw [e2, Bool.eq_iff_iff]
          simp
        simp [Op.equalIn, tUnd hu, SV.den, str, e]
      · exact h.elim
    · rename_i a b
      split at h
      · rename_i hu
        exact ⟨_, h, fun m w => by rw [Nat.add_right_comm]; simp [Op.equalIn, tUnd hu, SV.den]⟩
      · exact h.elim
    · rename_i l l'
      split at h
      · rename_i fs hu
        obtain ⟨⟨hs, hn⟩, h⟩ := h
        rw [arrK_eq] at h
        have key : ∃ bs : List Bool, q (bs.all id) ∧ ∀ w, Fa2 (fun (f : Field) (b : Bool) => ∃ u v : SV, (part f.type (dens l).toArray f.offset).run P w = .ok u.den w ∧ (part f.type (dens l').toArray f.offset).run P w = .ok v.den w ∧ ∀ m, (Op.equalIn (n + m) f.type u.den v.den).run P w = .ok b w) fs.toList bs := by
          clear hn hs hu
          revert h
          generalize fs.toList = fl
          intro h
          induction fl generalizing q with
          | nil => exact ⟨[], h, fun _ => .nil⟩
          | cons f fl ih =>
            rw [eqF_c] at h
            obtain ⟨u, hu, h⟩ := readAt_ok h
            obtain ⟨v, hv, h⟩ := readAt_ok h
            obtain ⟨b, h, hb⟩ := eqV_ok (n := n) h
            obtain ⟨bs, hq, hbs⟩ := ih (q := fun b' => q (b && b')) h
            exact ⟨b :: bs, by simpa using hq, fun w => .cons ⟨u, v, hu.part, hv.part, fun m => hb m w⟩ (hbs w)⟩
        obtain ⟨bs, hq, hbs⟩ := key
        refine ⟨_, hq, fun m w => ?_⟩
        have h2 := hbs w
        have h3 : Fa2 (fun (f : Field) (b : Bool) => ∃ u v : SV, (part f.type (dens l).toArray f.offset).run P w = .ok u.den w ∧ (part f.type (dens l').toArray f.offset).run P w = .ok v.den w ∧ (Op.equalIn (n + m) f.type u.den v.den).run P w = .ok b w) fs.toList bs := by
          clear hn hq hbs h
          revert h2
          generalize fs.toList = fl
          intro h2
          induction h2 with
          | nil => exact .nil
          | cons h1 _ ih => obtain ⟨u, v, g1, g2, g3⟩ := h1; exact .cons ⟨u, v, g1, g2, g3 m⟩ ih
        have h4 := eqLoop w h3 hn
        have hu' : P.underlying t = some (.struct fs.toList.toArray) := by simpa using hu
        rw [Nat.add_right_comm]
        simp only [Op.equalIn, tUnd hu', SV.den, Sem.run_bind, Result.andThen, program, Sem.run, hs, List.forIn_toArray]
        simp only [Bool.false_eq_true, ↓reduceIte, ne_eq, ite_not, Bool.not_eq_eq_eq_not, Bool.not_true, Sem.run_bind] at h4 ⊢
        rw [h4]
        cases bs.all id <;> simp [Result.andThen]
      · exact h.elim
    · exact h.elim
/-- == and != of structs -/
theorem BinS.agg {Φ : Facts} {c : Bool} {op : BinOp} {t : TypeId} {l l' : List SV} {q : SV → Prop} (n : Nat) (hg : P.eqGuardType P.depth t = false) (h : eqV P n t (.agg l) (.agg l') fun b => match decide (n ≤ 10000) with | true => nilEq op b q | false => False) : BinS P Φ c op t (.agg l) (.agg l') q := by
  obtain ⟨b, h1, h2⟩ := eqV_ok h
  split at h1
  · rename_i hn
    have hn : n ≤ 10000 := by simpa using hn
    have he : ∀ w, (Op.equal t (.agg (dens l).toArray) (.agg (dens l').toArray)).run P w = .ok b w := fun w => by
      have := h2 (10000 - n) w
      rw [show n + (10000 - n) = 10000 by omega] at this
      exact this
    have hq : ∀ (op : BinOp) (x y : Operand) w, (eqGuard op t x y (.agg (dens l).toArray) (.agg (dens l').toArray)).run P w = .ok () w := fun op x y w => by
      cases op <;> first | rfl | simp [eqGuard, program, Sem.run, hg, Result.andThen]
    rcases nilEq_ok h1 with ⟨rfl, h5⟩ | ⟨rfl, h5⟩
    · refine ⟨_, h5, fun E d ty pos af g xo yo u _ w _ hx hy _ => ?_⟩
      have hx' : E xo = .agg (dens l).toArray := hx
      have hy' : E yo = .agg (dens l').toArray := hy
      simp only [execOp, hx', hy', Sem.run_bind, hq, Result.andThen, binOp, he, Sem.run_pure]
      rfl
    · refine ⟨_, h5, fun E d ty pos af g xo yo u _ w _ hx hy _ => ?_⟩
      have hx' : E xo = .agg (dens l).toArray := hx
      have hy' : E yo = .agg (dens l').toArray := hy
      simp only [execOp, hx', hy', Sem.run_bind, hq, Result.andThen, binOp, he, Sem.run_pure]
      rfl
  · exact h1.elim
end Go.Proofs.YtikjigkkhdkibaaGreatDoor.W

/- More rules: elements stored, rows cut short, strings and bytes, maps. Over any program. -/
namespace Go.Proofs.YtikjigkkhdkibaaGreatDoor.W
open Go.RowKit
variable {P : Program} {nt : Nat} {ro : Option Nat} {env env' : Env} {ds : List Deferred} {lb lb' : LBs} {Φ Φ' : Facts} {ω : Amb} {A : Nat → Prop} {w : World} {E : Operand → Value}
variable {d : Option Tmp} {ty : TypeId} {pos : String} {af : Array Edge} {g : Option (Nat × Bool)} {kp : Kp} {q : SV → LBs → Facts → Prop}
/-! ### a store into an element of a row of one's own -/
theorem upd_append_left {A B vs : List Value} {o : Nat} (h : o + vs.length ≤ A.length) : upd (A ++ B) o vs = upd A o vs ++ B := by
  unfold upd
  rw [List.take_append_of_le_length (by omega), List.drop_append_of_le_length h]
  simp
theorem upd_append_right {A B vs : List Value} {m : Nat} : upd (A ++ B) (A.length + m) vs = A ++ upd B m vs := by
  unfold upd
  rw [List.take_append, List.drop_append]
  simp [Nat.add_assoc, List.take_of_length_le, List.drop_of_length_le]
theorem flat_set {α : Type} {enc : α → List SV} {k : Nat} {x y : α} {o : Nat} {vs : List SV} (hy : enc y = updS (enc x) o vs) (ho : o + vs.length ≤ k) : ∀ {L : List α} {e : Nat}, (∀ z ∈ L, (enc z).length = k) → L[e]? = some x →
    flat enc (L.set e y) = upd (flat enc L) (e * k + o) (dens vs)
  | [], _, _, hx => by cases hx
  | z :: L, 0, h, hx => by
    obtain rfl : z = x := by simpa using hx
    have hz := h z (by simp)
    simp only [List.set_cons_zero, flat, List.flatMap_cons, Nat.zero_mul, Nat.zero_add]
    rw [upd_append_left (by rw [dens_length, dens_length, hz]; exact ho), hy, dens_updS]
  | z :: L, e + 1, h, hx => by
    have hz : (dens (enc z)).length = k := by rw [dens_length, h z (by simp)]
    have ih := flat_set hy ho (L := L) (e := e) (fun u hu => h u (by simp [hu])) (by simpa using hx)
    simp only [flat] at ih
    simp only [List.set_cons_succ, flat, List.flatMap_cons, ih]
    rw [Nat.succ_mul, show e * k + k + o = (dens (enc z)).length + (e * k + o) by rw [hz]; omega, upd_append_right]
structure StQ {α : Type} (enc : α → List SV) (x : α) (o : Nat) (vs : List SV) (Q : α → Prop) : Prop where
  h : ∃ y, enc y = updS (enc x) o vs ∧ Q y
theorem StQ.mk' {α : Type} {enc : α → List SV} {x : α} {o : Nat} {vs : List SV} {Q : α → Prop} (y : α) (h : enc y = updS (enc x) o vs) (hq : Q y) : StQ enc x o vs Q := ⟨y, h, hq⟩
theorem SemO.storeVel {T : TypeId} {x y : Operand} (h : evS env x fun p => evS env y fun v => match P.info? T, p with
      | some inf, .vel i b e k o => match nth lb i with
        | some (b', .vec enc k' t p n c L) => cellsK v fun vs => Ob (okKp kp i = true ∧ b' = b ∧ k' = k ∧ inf.size = vs.length ∧ vs.all oneS = true ∧ o + vs.length ≤ k ∧ e < n)
            (∀ x, L[e]? = some x → StQ enc x o vs fun y => setK lb i (b', .vec enc k' t p n c (L.set e y)) fun lb => q .undef lb Φ)
        | _ => False
      | _, _ => False) : SemO P kp (.store T x y) ty env lb Φ q := by
  refine ⟨fun E d pos af g ω w he hr => ?_⟩
  obtain ⟨p, hp, hh⟩ := evS_ok he h
  clear h
  obtain ⟨v, hv, h⟩ := evS_ok he hh
  clear hh
  split at h
  · rename_i inf i b e k o hi
    split at h
    · rename_i b' α enc k' t p n c L hl
      rw [cellsK_eq] at h
      obtain ⟨⟨hokp, rfl, rfl, hs, ho, hok, hen⟩, h⟩ := h
      obtain ⟨g1, g2⟩ := hr.vec hl
      have hc : c ≠ 0 := by have := g1.2.1; omega
      obtain ⟨arr, fz, a1, az, a2, a3⟩ := g2 hc
      obtain ⟨x, hx⟩ : ∃ x, L[e]? = some x := ⟨_, List.getElem?_eq_getElem (by rw [g1.1]; exact hen)⟩
      obtain ⟨y, hy, hq⟩ := (h x hx).h
      rw [setK_eq] at hq
      have hxm : x ∈ L := List.mem_of_getElem? hx
      have hxk := g1.2.2.2.1 x hxm
      have hek : (e + 1) * k' ≤ n * k' := Nat.mul_le_mul_right _ hen
      have hnc : n * k' ≤ c * k' := Nat.mul_le_mul_right _ g1.2.1
      rw [Nat.succ_mul] at hek
      obtain ⟨w', k1, k2, k3⟩ := run_storeCells (P := P) (dens (cellsOf v)) (e * k' + o) 0 arr w a1 az (by rw [dens_length, a2]; omega) (oneS_ok ho)
      have hyk : okE enc k' y := by
        refine ⟨?_, ?_⟩
        · rw [hy]; simp [updS, hxk.1]; omega
        · rw [hy]
          simp only [updS, List.all_append, Bool.and_eq_true]
          refine ⟨⟨?_, ho⟩, ?_⟩
          · exact List.all_eq_true.2 fun z hz => List.all_eq_true.1 hxk.2 z (List.mem_of_mem_take hz)
          · exact List.all_eq_true.2 fun z hz => List.all_eq_true.1 hxk.2 z (List.mem_of_mem_drop hz)
      refine ⟨_, _, _, .skip, w', hq, ?_, .inr ⟨rfl, rfl⟩, ?_, .at hokp hl hc k3⟩
      · have hsz : v.den.cells.size = inf.size := by
          have e2 := congrArg List.length (dens_cellsOf v)
          rw [dens_length, Array.length_toList] at e2
          exact e2.symm.trans hs.symm
        have e1 := dens_cellsOf v
        rw [e1] at k1
        have hp' : E _ = .pointer (some ⟨b', e * k' + o, none⟩) := hp
        simp [execOp, hp', hv, Instr.storeAt, Instr.sureAddr, storeVar, tSize hi, hsz, k1, Result.andThen]
      · refine hr.turn hl (fun _ _ _ h => by cases h) hc k3 rfl ⟨_, k2, _, _, rfl, ?_, ?_, ?_⟩ ?_
        · rw [List.size_toArray, upd_length _ _ _ (by simp only [dens_length, Array.length_toList, a2]; omega), Array.length_toList]; exact az
        · rw [List.size_toArray, upd_length _ _ _ (by simp only [dens_length, Array.length_toList, a2]; omega), Array.length_toList]; exact a2
        · show (upd arr.toList (e * k' + o + 0) (dens (cellsOf v))).take (n * k') = _
          rw [flat_set hy hok (fun z hz => (g1.2.2.2.1 z hz).1) hx, ← a3, Nat.add_zero]
          have hl1 : (arr.toList.take (n * k')).length = n * k' := by rw [List.length_take, Array.length_toList, a2, Nat.min_eq_left hnc]
          have hl2 : e * k' + o + (dens (cellsOf v)).length ≤ n * k' := by rw [dens_length]; omega
          conv => lhs; rw [← List.take_append_drop (n * k') arr.toList, upd_append_left (by rw [hl1]; exact hl2)]
          exact List.take_left' (by rw [upd_length _ _ _ (by rw [hl1]; exact hl2), hl1])
        · exact ⟨by simp [g1.1], g1.2.1, g1.2.2.1, fun z hz => by
            rcases List.mem_or_eq_of_mem_set hz with h | rfl
            · exact g1.2.2.2.1 z h
            · exact hyk, g1.2.2.2.2.1, g1.2.2.2.2.2⟩
    · exact h.elim
  · exact h.elim
/-! ### a row of one's own, cut short -/
theorem SemO.sliceVec {T : TypeId} {x hi : Operand} (h : evS env x fun v => match v with
      | .vec i p n c => match nth lb i with
        | some (b', .vec enc k t p' n' c' L) => elemSize P T fun k2 => bnd env (some hi) n fun m => Ob (p' = p ∧ n' = n ∧ c' = c ∧ k2 = k ∧ m ≤ n) (setK lb i (b', .vec enc k t p m c (L.take m)) fun lb => q (.vec i p m c) lb Φ)
        | _ => False
      | _ => False) : SemO P kp (.slice T x none (some hi) none) ty env lb Φ q := by
  refine ⟨fun E d pos af g ω w he hr => ?_⟩
  obtain ⟨v, hv, hh⟩ := evS_ok he h
  clear h
  split at hh
  · rename_i i p n c
    split at hh
    · rename_i b' α enc k t p' n' c' L hl
      obtain ⟨e, inf, h1, h2, hh⟩ := elemSize_ok hh
      obtain ⟨m, hm, hh⟩ := bnd_ok he hh
      obtain ⟨⟨rfl, rfl, rfl, rfl, hle⟩, hq⟩ := hh
      rw [setK_eq] at hq
      obtain ⟨kd, hm⟩ := hm
      obtain ⟨g1, g2⟩ := hr.vec hl
      refine ⟨_, _, _, .value (SV.vec i p' m c').den, w, hq, ?_, .inl rfl, ?_, .of (Kept.refl _ _)⟩
      · have hv' : E x = .slice p' n' c' := hv
        have hmc : m ≤ c' := by have := g1.2.1; omega
        have ha : ∀ a : Addr, a.add 0 = a := fun a => by obtain ⟨b, off, sp⟩ := a; cases sp <;> simp [Addr.add]
        have hmap : p'.map (·.add 0) = p' := by cases p' <;> simp [ha]
        simp [execOp, hv', hm, Instr.sliceAt, Instr.slice, Instr.sliceBounds, Instr.sliceBound, asIntOf, tUnd h1, tSize h2, hmc, hmap, Result.andThen, SV.den]
      · have hg := sem_get hl
        have hbb : (ent (b', .vec enc inf.size t p' m c' (L.take m))).real → (ent (b', .vec enc inf.size t p' m c' (L.take m))).b = (ent (b', .vec enc inf.size t p' n' c' L)).b ∧ (ent (b', .vec enc inf.size t p' n' c' L)).real := fun h => ⟨rfl, h⟩
        have hfl : ∀ x ∈ L, (enc x).length = inf.size := fun x hx => (g1.2.2.2.1 x hx).1
        refine hr.move ?_ ?_ ?_ (Kept.refl _ _) ?_
        · rw [sem_set]
          refine hr.st.put hg hbb ?_ ?_
          · rintro o - ⟨arr, fz, r1, r2, r3, r4⟩
            refine ⟨arr, fz, r1, r2, r3, ?_⟩
            have hmn : m * inf.size ≤ n' * inf.size := Nat.mul_le_mul_right _ hle
            rw [show arr.toList.take (m * inf.size) = (arr.toList.take (n' * inf.size)).take (m * inf.size) by rw [List.take_take, Nat.min_eq_left hmn], r4]
            conv => lhs; rw [← List.take_append_drop m L, flat_append]
            exact List.take_left' (by rw [flat_length (fun x hx => hfl x (List.mem_of_mem_take hx)), List.length_take, g1.1, Nat.min_eq_left hle])
          · exact fun _ => ⟨by rw [List.length_take, g1.1, Nat.min_eq_left hle], by have := g1.2.1; omega, g1.2.2.1, fun x hx => g1.2.2.2.1 x (List.mem_of_mem_take hx), g1.2.2.2.2⟩
        · rw [sem_set]; exact hr.hold.kp (KP.trω (Tr.put hg hbb))
        · rw [sem_set]; exact Tr.put hg hbb
        · intro b lp xs s hi'
          rcases nth_set hl hi' with h | h
          · exact h
          · cases h
    · exact hh.elim
  · exact hh.elim
/-! ### strings and bytes -/
def encB (b : UInt8) : List SV := [.int .u8 b.toNat]
theorem okE_encB (b : UInt8) : okE encB 1 b := ⟨rfl, rfl⟩
theorem flat_encB (s : List UInt8) : flat encB s = s.map fun b => Value.int .u8 b.toNat := by
  induction s with
  | nil => rfl
  | cons b s ih => simp only [flat, List.flatMap_cons] at ih ⊢; rw [ih]; rfl
def cvTy (P : Program) (s t : TypeId) (toStr : Bool) : Bool :=
  match toStr with
  | true => match P.underlying s, P.underlying t with
    | some (.slice e), some .string => match P.underlying e with
      | some (.int .u8) => true
      | _ => false
    | _, _ => false
  | false => match P.underlying s, P.underlying t with
    | some .string, some (.slice e) => match P.underlying e with
      | some (.int .u8) => true
      | _ => false
    | _, _ => false
theorem cvTy_true {s t : TypeId} (h : cvTy P s t true = true) : ∃ e, P.underlying s = some (.slice e) ∧ P.underlying e = some (.int .u8) ∧ P.underlying t = some .string := by
  simp only [cvTy] at h
  split at h
  · rename_i e h1 h2
    split at h
    · rename_i h3; exact ⟨e, h1, h3, h2⟩
    · cases h
  · cases h
theorem cvTy_false {s t : TypeId} (h : cvTy P s t false = true) : ∃ e, P.underlying s = some .string ∧ P.underlying t = some (.slice e) ∧ P.underlying e = some (.int .u8) := by
  simp only [cvTy] at h
  split at h
  · rename_i e h1 h2
    split at h
    · rename_i h3; exact ⟨e, h1, h2, h3⟩
    · cases h
  · cases h
theorem run_toStr {A : Nat → Prop} {s t : TypeId} {p : Option Addr} {n c : Nat} {l : List UInt8} (h : cvTy P s t true = true) (hs : Sl A w 1 p n c (flat encB l)) : (convert s t (.slice p n c)).run P w = .ok (W.str l) w := by
  obtain ⟨e, h1, h2, h3⟩ := cvTy_true h
  have hn : l.length = n := by have := hs.len; rw [flat_encB] at this; simpa using this
  rcases hs.at_ with h0 | ⟨b, off, cs, ty, fz, hp, _, hb, hsz, hc⟩
  · subst h0
    obtain rfl : l = [] := List.length_eq_zero_iff.1 hn
    cases p with
    | none => simp [convert, tUnd h1, tUnd h2, tUnd h3, Conv.bytesToString, Result.andThen, W.str]; rfl
    | some a => exact run_convert_bytes_back w s t e a c [] h1 h2 h3 (fun j hj => by simp at hj)
  · subst hp hn
    refine run_convert_bytes_back w s t e ⟨b, off, none⟩ c l h1 h2 h3 fun j hj => ?_
    rw [addr_add, cell_of hb, ← Array.getElem?_toList]
    have h4 : (flat encB l)[j]? = some (.int .u8 (l[j].toNat : Int)) := by rw [flat_encB]; simp [hj]
    rw [← hc, List.getElem?_take, Nat.mul_one, if_pos hj, List.getElem?_drop] at h4
    exact h4
structure B2S {α : Type} (enc : α → List SV) (L : List α) (Q : List UInt8 → Prop) : Prop where
  h : ∃ s : List UInt8, flat enc L = flat encB s ∧ Q s
theorem B2S.mk' {L : List UInt8} {Q : List UInt8 → Prop} (h : Q L) : B2S encB L Q := ⟨L, rfl, h⟩
theorem SemO.toStrV {s t : TypeId} {x : Operand} (hc : cvTy P s t true = true) (h : evS env x fun v => match v with
      | .vec i p n c => match nth lb i with
        | some (_, .vec enc k _ p' n' c' L) => Ob (p' = p ∧ n' = n ∧ c' = c ∧ k = 1) (B2S enc L fun s => q (.str s) lb Φ)
        | _ => False
      | _ => False) : SemO P kp (.convert s t x) ty env lb Φ q := by
  refine ⟨fun E d pos af g ω w he hr => ?_⟩
  obtain ⟨v, hv, hh⟩ := evS_ok he h
  clear h
  split at hh
  · rename_i i p n c
    split at hh
    · rename_i b' α enc k t' p' n' c' L hl
      obtain ⟨⟨rfl, rfl, rfl, rfl⟩, hh⟩ := hh
      obtain ⟨l, hf, hq⟩ := hh.h
      have hs := hr.vecSl hl
      rw [hf] at hs
      refine ⟨_, _, _, _, w, hq, ?_, .inl rfl, hr, .of (Kept.refl _ _)⟩
      have hv' : E x = .slice p' n' c' := hv
      simp [execOp, hv', run_toStr hc hs, Result.andThen]
      rfl
    · exact hh.elim
  · exact hh.elim
theorem SemO.toStrF {s t : TypeId} {x : Operand} (hc : cvTy P s t true = true) (h : evS env x fun v => match v with
      | .raw (.slice p n c) => ∃ l : List UInt8, SlV Φ encB 1 p n c l ∧ q (.str l) lb Φ
      | _ => False) : SemO P kp (.convert s t x) ty env lb Φ q := by
  refine ⟨fun E d pos af g ω w he hr => ?_⟩
  obtain ⟨v, hv, hh⟩ := evS_ok he h
  clear h
  split at hh
  · rename_i p n c
    obtain ⟨l, hl, hq⟩ := hh
    obtain ⟨_, _, hs⟩ := hl.ok hr.hold
    refine ⟨_, _, _, _, w, hq, ?_, .inl rfl, hr, .of (Kept.refl _ _)⟩
    have hv' : E x = .slice p n c := hv
    simp [execOp, hv', run_toStr hc hs, Result.andThen]
    rfl
  · exact hh.elim
theorem SemO.toBytes {s t : TypeId} {x : Operand} (hc : cvTy P s t false = true) (h : evS env x fun v => match v with
      | .str l => elemSize P t fun _ => match P.underlying t with
        | some (.slice e) => Ob (l.length ≤ 9223372036854775807) (∀ b p c, l.length ≤ c → appK lb [(b, .vec encB 1 e p l.length c l)] fun lb' => lenK lb 0 fun i => q (.vec i p l.length c) lb' Φ)
        | _ => False
      | _ => False) : SemO P kp (.convert s t x) ty env lb Φ q := by
  refine ⟨fun E d pos af g ω w he hr => ?_⟩
  obtain ⟨v, hv, hh⟩ := evS_ok he h
  clear h
  obtain ⟨e, h1, h2, h3⟩ := cvTy_false hc
  split at hh
  · rename_i l
    obtain ⟨_, _, _, _, hh⟩ := elemSize_ok hh
    rw [h2] at hh
    simp only at hh
    obtain ⟨hlen, hh⟩ := hh
    have hq := hh w.heap.size (some ⟨w.heap.size, 0, none⟩) (grownCap w l.length 0 e) (grownCap_ge _ _ _ _)
    rw [appK_eq, lenK_eq, Nat.zero_add] at hq
    have hrun := run_bytes_of_string (P := P) w s t e ⟨l.toArray⟩ h1 h2 h3
    have hsz : (⟨l.toArray⟩ : ByteArray).size = l.length := rfl
    rw [hsz] at hrun
    refine ⟨_, _, _, .value (.slice (some ⟨w.heap.size, 0, none⟩) l.length (grownCap w l.length 0 e)), w.drew.alloc (.cells (bytesRow ⟨l.toArray⟩ (grownCap w l.length 0 e)) e ((bytesRow ⟨l.toArray⟩ (grownCap w l.length 0 e)).size, (bytesRow ⟨l.toArray⟩ (grownCap w l.length 0 e)).size + 1)), hq, ?_, .inl rfl, ?_, .of ((kept_drew w).trans (Kept.alloc _ _ _))⟩
    · have hv' : E x = .string ⟨l.toArray⟩ := hv
      simp only [execOp, hv', Sem.run_bind, hrun, Result.andThen, Sem.run_pure]
    · have hcap := grownCap_ge w l.length 0 e
      have hr2 := hr.call (kept_drew w)
      refine hr2.alloc (b := .vec encB 1 e (some ⟨w.heap.size, 0, none⟩) l.length (grownCap w l.length 0 e) l) (fun _ _ _ h => by cases h) rfl ⟨_, _, rfl, Thaw.behind (Nat.le_refl _), ?_, ?_⟩ ⟨rfl, hcap, ?_, fun x _ => okE_encB x, fun _ => rfl, fun h => by cases h⟩
      · simp only [bytesRow, Array.size_append, Array.size_map, Array.size_replicate, hsz, Nat.mul_one, List.size_toArray]; omega
      · rw [flat_encB, Nat.mul_one]
        simp only [bytesRow, Array.toList_append, Array.toList_map]
        exact List.take_left' (by simp)
      · have := grownCap_le_maxLen w l.length 0 e (by unfold maxLen; omega)
        unfold maxLen at this; omega
  · exact hh.elim
end Go.Proofs.YtikjigkkhdkibaaGreatDoor.W

/- Rules: maps. Over any program. -/
namespace Go.Proofs.YtikjigkkhdkibaaGreatDoor.W
open Go.RowKit
variable {P : Program} {nt : Nat} {ro : Option Nat} {env env' : Env} {ds : List Deferred} {lb lb' : LBs} {Φ Φ' : Facts} {ω : Amb} {A : Nat → Prop} {w : World} {E : Operand → Value}
variable {d : Option Tmp} {ty : TypeId} {pos : String} {af : Array Edge} {g : Option (Nat × Bool)} {kp : Kp} {q : SV → LBs → Facts → Prop}
/-- how keys of type K are held against each other -/
structure KeyLaw (P : Program) {κ : Type} [DecidableEq κ] (ek : κ → Value) (K : TypeId) : Prop where
  h : ∃ dsc, P.underlying K = some dsc ∧ (∀ x y, Instr.sameNow dsc (ek x) (ek y) = some (decide (x = y))) ∧ (∀ b x w, (Instr.checkKey b 10000 K (ek x)).run P w = .ok () w) ∧ ∀ x, Instr.sameBits 10000 (ek x) (ek x) = true
theorem check_int (n : Nat) {K : TypeId} {k k' : IntKind} {x : Int} {b : Bool} (h : P.underlying K = some (.int k)) (w : World) : (Instr.checkKey b (n + 1) K (.int k' x)).run P w = .ok () w := by
  simp [Instr.checkKey, tUnd h, Result.andThen]
theorem check_str (n : Nat) {K : TypeId} {x : List UInt8} {b : Bool} (h : P.underlying K = some .string) (w : World) : (Instr.checkKey b (n + 1) K (W.str x)).run P w = .ok () w := by
  simp [Instr.checkKey, tUnd h, Result.andThen, W.str]
theorem KeyLaw.int {K : TypeId} {k : IntKind} (h : P.underlying K = some (.int k)) : KeyLaw P (Value.int k) K :=
  ⟨_, h, fun x y => by
    simp only [Instr.sameNow, ↓reduceIte, Option.some.injEq]
    by_cases e : x = y <;> simp [e], fun b x w => check_int 9999 h w, fun x => by simp [Instr.sameBits]⟩
theorem KeyLaw.str {K : TypeId} (h : P.underlying K = some .string) : KeyLaw P W.str K :=
  ⟨_, h, fun x y => by
    have e2 : ((⟨x.toArray⟩ : ByteArray) == ⟨y.toArray⟩) = (x.toArray == y.toArray) := rfl
    simp only [Instr.sameNow, W.str, Option.some.injEq, e2]
    by_cases e : x = y <;> simp [e], fun b x w => check_str 9999 h w, fun x => by
    have e2 : ((⟨x.toArray⟩ : ByteArray) == ⟨x.toArray⟩) = (x.toArray == x.toArray) := rfl
    simp [Instr.sameBits, W.str, e2]⟩
section
variable {κ : Type} [DecidableEq κ]
/-- where a key lies, and what with it -/
def mfind : List (κ × SV) → κ → Nat → Option (Nat × SV)
  | [], _, _ => none
  | (k, v) :: r, x, i => if x = k then some (i, v) else mfind r x (i + 1)
def mput (L : List (κ × SV)) (x : κ) (v : SV) : List (κ × SV) :=
  match mfind L x 0 with
  | some (i, _) => L.set i (x, v)
  | none => L ++ [(x, v)]
def mdel (L : List (κ × SV)) (x : κ) : List (κ × SV) :=
  match mfind L x 0 with
  | some (i, _) => L.eraseIdx i
  | none => L
def mget (L : List (κ × SV)) (x : κ) : Option SV := (mfind L x 0).map (·.2)
/-- a key that is looked up -/
def mlook : List (κ × SV) → κ → (SV → Prop) → Prop → Prop
  | [], _, _, n => n
  | (k, v) :: r, x, y, n => BR (decide (x = k)) (y v) (mlook r x y n)
theorem mfind_map {L : List (κ × SV)} {x : κ} {i j : Nat} : (mfind L x i).map (·.2) = (mfind L x j).map (·.2) := by
  induction L generalizing i j with
  | nil => rfl
  | cons a L ih =>
    obtain ⟨k, v⟩ := a
    simp only [mfind]
    split
    · rfl
    · exact ih
theorem mlook_ok {L : List (κ × SV)} {x : κ} {y : SV → Prop} {n : Prop} (h : mlook L x y n) : (∃ v, mget L x = some v ∧ y v) ∨ (mget L x = none ∧ n) := by
  induction L with
  | nil => exact .inr ⟨rfl, h⟩
  | cons a L ih =>
    obtain ⟨k, v⟩ := a
    by_cases e : x = k
    · exact .inl ⟨v, by simp [mget, mfind, e], h.t (decide_eq_true e)⟩
    · have : mget ((k, v) :: L) x = mget L x := by
        simp only [mget, mfind, if_neg e]
        exact mfind_map
      rw [this]
      exact ih (h.f (decide_eq_false e))
theorem mlook_mk {L : List (κ × SV)} {x : κ} {y : SV → Prop} {n : Prop} (h1 : ∀ v, mget L x = some v → y v) (h2 : mget L x = none → n) : mlook L x y n := by
  induction L with
  | nil => exact h2 rfl
  | cons a L ih =>
    obtain ⟨k, v⟩ := a
    refine BR.mk (fun e => h1 v ?_) (fun e => ?_)
    · simp [mget, mfind, of_decide_eq_true e]
    · have : mget ((k, v) :: L) x = mget L x := by
        simp only [mget, mfind, if_neg (of_decide_eq_false e)]
        exact mfind_map
      rw [this] at h1 h2
      exact ih h1 h2
variable {ek : κ → Value}
theorem findNow_ok {dsc : TypeDesc} (h : ∀ x y, Instr.sameNow dsc (ek x) (ek y) = some (decide (x = y))) (x : κ) : ∀ (es : List MapEntry) (L : List (κ × SV)) (i : Nat), es.map (fun e => (e.key, e.val)) = L.map (fun x => (ek x.1, x.2.den)) →
    Instr.findNow dsc (ek x) es i = some ((mfind L x i).map fun r => (r.1, r.2.den))
  | [], [], i, _ => rfl
  | [], _ :: _, _, h => by simp at h
  | _ :: _, [], _, h => by simp at h
  | e :: es, (k, v) :: L, i, hm => by
    simp only [List.map_cons, List.cons.injEq, Prod.mk.injEq] at hm
    obtain ⟨⟨h1, h2⟩, h3⟩ := hm
    simp only [Instr.findNow, mfind, h1, h]
    by_cases e : x = k
    · simp [e, h2]
    · simp [e, findNow_ok h x es L (i + 1) h3]
theorem findKey_ok {K : TypeId} (hk : KeyLaw P ek K) (x : κ) {es : Array MapEntry} {L : List (κ × SV)} (hm : es.toList.map (fun e => (e.key, e.val)) = L.map (fun x => (ek x.1, x.2.den))) (w : World) :
    (Instr.findKey K (ek x) es.toList).run P w = .ok ((mfind L x 0).map fun r => (r.1, r.2.den)) w := by
  obtain ⟨dsc, h1, h2, _, _⟩ := hk.h
  simp [Instr.findKey, tUnd h1, findNow_ok h2 x es.toList L 0 hm, Result.andThen]
theorem mfind_lt {L : List (κ × SV)} {x : κ} {i j : Nat} {v : SV} (h : mfind L x i = some (j, v)) : ∃ n, j = i + n ∧ L[n]? = some (x, v) := by
  induction L generalizing i with
  | nil => cases h
  | cons a L ih =>
    obtain ⟨k, u⟩ := a
    simp only [mfind] at h
    split at h
    · rename_i e
      cases h
      exact ⟨0, rfl, by simp [e]⟩
    · obtain ⟨n, h1, h2⟩ := ih h
      exact ⟨n + 1, by omega, by simpa using h2⟩
/-- the object that a map of one's own is -/
theorem Rel.mapAt (h : Rel P lb Φ ω w) {i b : Nat} {κ : Type} {ek : κ → Value} {L : List (κ × SV)} (hi : nth lb i = some (b, .map ek L)) :
    ∃ (es : Array MapEntry) (clock : Nat), w.heap[b]? = some (.map es clock) ∧ es.toList.map (fun e => (e.key, e.val)) = L.map (fun x => (ek x.1, x.2.den)) ∧ (es.toList.map (·.born)).Nodup ∧ ∀ e ∈ es.toList, e.born < clock := by
  obtain ⟨_, h2⟩ := h.st.own i _ (sem_get hi)
  obtain ⟨_, o, h3, es, clock, rfl, h5⟩ := h2 trivial
  exact ⟨es, clock, h3, h5⟩
theorem SemO.makeMap {κ : Type} (ek : κ → Value) {T : TypeId} (h : ∀ b, appK lb [(b, .map ek [])] fun lb' => lenK lb 0 fun i => q (.mp i b) lb' Φ) : SemO P kp (.makeMap T none) ty env lb Φ q := by
  refine ⟨fun E d pos af g ω w he hr => ?_⟩
  have hq := h w.heap.size
  rw [appK_eq, lenK_eq, Nat.zero_add] at hq
  refine ⟨_, _, _, .value (.map (some w.heap.size)), w.alloc (.map #[] 0), hq, ?_, .inl rfl, ?_, .of (Kept.alloc _ _ _)⟩
  · simp only [execOp, Instr.makeMap, newObj, Sem.run_bind, Result.andThen, Option.map_none, Sem.run]
    rfl
  · exact hr.alloc (b := .map ek []) (fun _ _ _ h => by cases h) rfl ⟨#[], 0, rfl, rfl, by simp, by simp⟩ trivial
/-- a key, as the map's own -/
structure KeyIs {κ : Type} (ek : κ → Value) (v : SV) (Q : κ → Prop) : Prop where
  h : ∃ x, v.den = ek x ∧ Q x
theorem KeyIs.int {k : IntKind} {e : Int} {Q : Int → Prop} (h : Q e) : KeyIs (Value.int k) (.int k e) Q := ⟨e, rfl, h⟩
theorem KeyIs.str {s : List UInt8} {Q : List UInt8 → Prop} (h : Q s) : KeyIs W.str (.str s) Q := ⟨s, rfl, h⟩
theorem map_set_eq {es : Array MapEntry} {L : List (κ × SV)} {j : Nat} {x : κ} {v : SV} (hm : es.toList.map (fun e => (e.key, e.val)) = L.map (fun x => (ek x.1, x.2.den))) :
    ((es.modify j fun e => { e with key := ek x, val := v.den }).toList.map fun e => (e.key, e.val)) = (L.set j (x, v)).map fun x => (ek x.1, x.2.den) := by
  have _ := (inferInstance : DecidableEq κ)
  apply List.ext_getElem?
  intro n
  have hn := congrArg (·[n]?) hm
  simp only [List.getElem?_map, Array.getElem?_toList] at hn
  simp only [List.getElem?_map, Array.getElem?_toList, Array.getElem?_modify, List.getElem?_set]
  by_cases e : j = n
  · subst e
    simp only [↓reduceIte]
    cases h1 : es[j]? with
    | none =>
      rw [h1] at hn
      have : L[j]? = none := by simpa using hn.symm
      have h2 : ¬ j < L.length := by rw [List.getElem?_eq_none_iff] at this; omega
      simp [h2]
    | some e =>
      rw [h1] at hn
      obtain ⟨a, ha, _⟩ : ∃ a, L[j]? = some a ∧ (ek a.1, a.2.den) = (e.key, e.val) := by simpa using hn.symm
      have h2 : j < L.length := (List.getElem?_eq_some_iff.1 ha).1
      simp [h2]
  · simp only [if_neg e]
    exact hn
theorem modify_born {es : Array MapEntry} {j : Nat} {k v : Value} : ((es.modify j fun e => { e with key := k, val := v }).toList.map (·.born)) = es.toList.map (·.born) := by
  apply List.ext_getElem?
  intro n
  simp only [List.getElem?_map, Array.getElem?_toList, Array.getElem?_modify]
  split
  · cases es[n]? <;> rfl
  · rfl
theorem run_getMap {b : Nat} {es : Array MapEntry} {clock : Nat} (h : w.heap[b]? = some (.map es clock)) : (getObj b).run P w = .ok (.map es clock) w := by
  simp [getObj, Sem.run, h]
theorem run_setMap {b : Nat} {o o' : Obj} (h : w.heap[b]? = some o) (hn : ∀ c t f, o ≠ .cells c t f) : (setObj b o').run P w = .ok () (w.putObj b o') := by
  cases o <;> first | exact absurd rfl (hn _ _ _) | simp [setObj, Sem.run, h, World.putObj]
/-- what an insertion is to be shown -/
theorem SemO.insert {κ : Type} [DecidableEq κ] {T : TypeId} {m k x : Operand} (h : evS env m fun mv => evS env k fun kv => evS env x fun v => match mv with
      | .mp i b => match nth lb i, P.underlying T with
        | some (b', .map (κ := κ') ek L), some (.map K _) => ∃ (_ : DecidableEq κ'), KeyLaw P ek K ∧ KeyIs ek kv fun x => Ob (b' = b ∧ okKp kp i = true) (∀ L', L' = mput L x v → setK lb i (b', .map ek L') fun lb => q .undef lb Φ)
        | _, _ => False
      | _ => False) (op : Op) (ho : op = .insert T m k x ∨ op = .mapUpdate T m k x) : SemO P kp op ty env lb Φ q := by
  refine ⟨fun E d pos af g ω w he hr => ?_⟩
  obtain ⟨mv, hmv, h⟩ := evS_ok he h
  obtain ⟨kv, hkv, h⟩ := evS_ok he h
  obtain ⟨v, hv, h⟩ := evS_ok he h
  split at h
  · rename_i i b
    split at h
    · rename_i b' κ' ek L K _ hi hT
      obtain ⟨hd, hl, hk⟩ := h
      obtain ⟨key, hke, ⟨rfl, hokp⟩, hq⟩ := hk.h
      have hq := hq _ rfl
      rw [setK_eq] at hq
      obtain ⟨es, clock, g1, g2, g3, g4⟩ := hr.mapAt hi
      obtain ⟨dsc, l1, l2, l3, l4⟩ := hl.h
      have hf := findKey_ok hl key g2 w
      have hmv' : E m = .map (some b') := hmv
      have hrun : ∃ es' clock', (Instr.mapUpdate T (E m) (E k) (E x)).run P w = .ok () (w.putObj b' (.map es' clock')) ∧ es'.toList.map (fun e => (e.key, e.val)) = (mput L key v).map (fun x => (ek x.1, x.2.den)) ∧ (es'.toList.map (·.born)).Nodup ∧ ∀ e ∈ es'.toList, e.born < clock' := by
        cases hfind : mfind L key 0 with
        | none =>
          rw [hfind] at hf
          refine ⟨es.push { key := ek key, val := v.den, born := clock }, clock + 1, ?_, ?_, ?_, ?_⟩
          · rw [hmv', hkv, hke, hv]
            simp only [Instr.mapUpdate, Sem.run_bind, tUnd hT, Result.andThen, run_getMap g1, l3, hf, Option.map_none]
            exact run_setMap g1 (fun _ _ _ h => by cases h)
          · simp [mput, hfind, g2]
          · simp only [Array.toList_push, List.map_append, List.map_cons, List.map_nil]
            rw [List.nodup_append]
            refine ⟨g3, by simp, ?_⟩
            intro a ha b hb
            simp only [List.mem_singleton] at hb
            subst hb
            obtain ⟨e, he, rfl⟩ := List.mem_map.1 ha
            exact Nat.ne_of_lt (g4 e he)
          · intro e he
            rw [Array.toList_push, List.mem_append] at he
            rcases he with he | he
            · exact Nat.lt_succ_of_lt (g4 e he)
            · simp only [List.mem_singleton] at he; subst he; exact Nat.lt_succ_self _
        | some r =>
          obtain ⟨j, u⟩ := r
          rw [hfind] at hf
          obtain ⟨n, hj, hn⟩ := mfind_lt hfind
          rw [Nat.zero_add] at hj
          subst hj
          have hnn := congrArg (·[j]?) g2
          simp only [List.getElem?_map, Array.getElem?_toList, hn] at hnn
          obtain ⟨e, he1, he2⟩ : ∃ e, es[j]? = some e ∧ (e.key, e.val) = (ek key, u.den) := by simpa using hnn
          obtain ⟨he2, he3⟩ := Prod.mk.inj he2
          refine ⟨es.modify j fun e => { e with key := ek key, val := v.den }, clock, ?_, ?_, ?_, ?_⟩
          · rw [hmv', hkv, hke, hv]
            simp only [Instr.mapUpdate, Sem.run_bind, tUnd hT, Result.andThen, run_getMap g1, l3, hf, Option.map_some, he1, Option.getD_some, he2, Instr.keyThatStays, l4, ↓reduceIte, Sem.run_pure]
            exact run_setMap g1 (fun _ _ _ h => by cases h)
          · simp only [mput, hfind]
            exact map_set_eq g2
          · rw [modify_born]; exact g3
          · intro e' he'
            have : e'.born ∈ es.toList.map (·.born) := by rw [← modify_born (j := j) (k := ek key) (v := v.den)]; exact List.mem_map_of_mem he'
            obtain ⟨e2, h1, h2⟩ := List.mem_map.1 this
            rw [← h2]; exact g4 e2 h1
      obtain ⟨es', clock', r1, r2, r3, r4⟩ := hrun
      refine ⟨_, _, _, .skip, _, hq, ?_, .inr ⟨rfl, rfl⟩, hr.turn hi (fun _ _ _ h => by cases h) trivial (kept_putObj w b' (.map es' clock')) rfl ⟨_, World.putObj_heap_same (lt_of_some g1), es', clock', rfl, r2, r3, r4⟩ trivial, .at hokp hi trivial (kept_putObj w b' (.map es' clock'))⟩
      rcases ho with rfl | rfl <;> simp [execOp, r1, Result.andThen]
    · exact h.elim
  · exact h.elim
/-- what looking up is to be shown -/
theorem SemO.lookup {T : TypeId} {m k : Operand} {ok : Bool} (h : evS env m fun mv => evS env k fun kv => match mv with
      | .mp i b => match nth lb i, P.underlying T with
        | some (b', .map (κ := κ') ek L), some (.map K el) => match P.info? el with
          | some inf => match inf.zero with
            | some z => ∃ (_ : DecidableEq κ'), KeyLaw P ek K ∧ KeyIs ek kv fun x => Ob (b' = b) (mlook L x (fun v => q (match ok with | true => .tup [v, .bool true] | false => v) lb Φ) (ofVK z fun v => q (match ok with | true => .tup [v, .bool false] | false => v) lb Φ))
            | none => False
          | none => False
        | _, _ => False
      | _ => False) : SemO P kp (.lookup T m k ok) ty env lb Φ q := by
  refine ⟨fun E d pos af g ω w he hr => ?_⟩
  obtain ⟨mv, hmv, h⟩ := evS_ok he h
  obtain ⟨kv, hkv, h⟩ := evS_ok he h
  split at h
  · rename_i i b
    split at h
    · rename_i b' κ' ek L K el hi hT
      split at h
      · rename_i inf hinf
        split at h
        · rename_i z hz
          obtain ⟨hd, hl, hk⟩ := h
          obtain ⟨key, hke, rfl, hq⟩ := hk.h
          obtain ⟨es, clock, g1, g2, g3, g4⟩ := hr.mapAt hi
          obtain ⟨dsc, l1, l2, l3, l4⟩ := hl.h
          have hf := findKey_ok hl key g2 w
          have hmv' : E m = .map (some b') := hmv
          have hkv' : E k = ek key := hkv.trans hke
          have hz' := tZero (P := P) hinf hz
          rw [ofVK_eq] at hq
          rcases mlook_ok hq with ⟨v, h1, hq⟩ | ⟨h1, hq⟩
          · obtain ⟨j, hj⟩ : ∃ j, mfind L key 0 = some (j, v) := by
              simp only [mget, Option.map_eq_some_iff] at h1
              obtain ⟨⟨j, u⟩, h2, rfl⟩ := h1
              exact ⟨j, h2⟩
            rw [hj] at hf
            refine ⟨_, _, _, _, w, hq, ?_, .inl rfl, hr, .of (Kept.refl _ _)⟩
            cases ok <;> simp [execOp, Instr.lookup, hmv', hkv', tUnd hT, run_getMap g1, l3, hf, Result.andThen, SV.den, dens]
          · have hj : mfind L key 0 = none := by simpa [mget] using h1
            rw [hj] at hf
            refine ⟨_, _, _, _, w, hq, ?_, .inl rfl, hr, .of (Kept.refl _ _)⟩
            cases ok <;> simp [execOp, Instr.lookup, hmv', hkv', tUnd hT, run_getMap g1, l3, hf, hz', Result.andThen, SV.den, dens, den_ofV]
        · exact h.elim
      · exact h.elim
    · exact h.elim
  · exact h.elim
end
end Go.Proofs.YtikjigkkhdkibaaGreatDoor.W

/- Ranges over functions, in short; iterators, in short. Over any program. -/
namespace Go.Proofs.YtikjigkkhdkibaaGreatDoor.W
open Go.RowKit
variable {P : Program} {nt : Nat} {ro : Option Nat} {env env' : Env} {ds : List Deferred} {lb lb' : LBs} {Φ Φ' : Facts} {ω : Amb} {A : Nat → Prop} {w : World} {E : Operand → Value}
/-- what comes next: a round, what is behind a leave -/
structure Nx1 (p : Prop) : Prop where
  go : p
structure Nx2 (p : Prop) : Prop where
  go : p
/-- a block's cells, said anew -/
def setCells : LBs → Nat → List SV → LBs
  | [], _, _ => []
  | (b, .cells _ t) :: l, 0, cs => (b, .cells cs t) :: l
  | e :: l, 0, _ => e :: l
  | e :: l, n + 1, cs => e :: setCells l n cs
/-- the two blocks of a range over a function -/
def twoB (D : Nat) (r : Loop) : LBs := [(D, .obj (.deferred (some []))), (D + 1, .obj (.loop r))]
theorem nth_two (l : LBs) {m D : Nat} (o1 o : Obj) (h : l.length = m) : nth (l ++ ([(D, .obj o1), (D + 1, .obj o)] : LBs)) (m + 1) = some (D + 1, .obj o) := by
  rw [nth_eq, List.getElem?_append_right (by omega)]
  simp [h]
theorem set_two (l : LBs) {m D : Nat} (o1 o o2 : Obj) (h : l.length = m) : (l ++ ([(D, .obj o1), (D + 1, .obj o)] : LBs)).set (m + 1) (D + 1, .obj o2) = l ++ [(D, .obj o1), (D + 1, .obj o2)] := by
  rw [List.set_append_right _ _ (by omega)]
  simp [h]
/-- how a round may end -/
def finS {σ : Type} (P : Program) (D : Nat) (B : σ → LBs) (F : σ → Facts) (inv : Nat → σ → Prop) (stop : Code → σ → Prop) (rc : LoopState → Option Code → Loop) (s : Option Nat) (c : Code) (lb : LBs) (Φ : Facts) : Prop :=
  match s with
  | some n => ∃ y, inv n y ∧ Imp P lb Φ (B y ++ twoB D (rc .ready none)) (F y)
  | none => ∃ y, stop c y ∧ Imp P lb Φ (B y ++ twoB D (rc .done (some c))) (F y)
theorem SemC.rangeS {σ : Type} {Q : QT} {gO : Operand} {ps : Array Tmp} {assign body : Code} {gf : FuncId} {caps : List SV} {Φ0 : Facts} {R : LBs → Facts → Prop} (B : σ → LBs) (F : σ → Facts) (inv : Nat → σ → Prop) (stop : Code → σ → Prop) (X : List (List SV)) (m : Nat)
    (hIt : It P gf [] caps Φ0 (fixd X) R) (x0 : σ) (h0 : inv 0 x0) (hm : ∀ x, (B x).length = m) (hi : ∀ D r, Imp P (lb ++ twoB D r) Φ (B x0 ++ twoB D r) (F x0)) (hΦ : SubK Φ0 (F x0)) (hg : evS env gO fun v => v.den = (SV.fn gf [] caps).den)
    (hround : ∀ (D : Nat) (rc : LoopState → Option Code → Loop) n x a, inv n x → X[n]? = some a → Nx1 (appK (B x) (twoB D (rc .ready none)) fun lb => arrK ps fun ps => paramsK nt ps a env fun env => roundQ P nt (D + 1) (m + 1) assign body env (finS P D B F inv stop rc) n (rc .ready none) (rc .busy none) (fun c => rc .done (some c)) lb (F x)))
    (hdone : ∀ D x o, inv X.length x → Nx (appK (B x) [(D, .obj (.deferred (some []))), (D + 1, .obj o)] fun lb => Q .normal env (markD D :: ds) lb (F x)))
    (hstop : ∀ D c x o, stop c x → Nx2 (appK (B x) [(D, .obj (.deferred (some []))), (D + 1, .obj o)] fun lb => wpC P nt none c env (markD D :: ds) lb (F x) Q)) (hfn : isFn P gf := by exact fun _ _ => rfl) (hpl : ∀ D x r, plainK (B x ++ twoB D r) := by first | exact fun _ _ _ => trivial | exact fun _ _ _ => fixd_plain _) :
    SemC P nt none (.rangeFunc gO ps assign body) env ds lb Φ Q := by
  refine SemC.range (X := fixd X) (m + 1) hIt hg hfn (fun D rc s lb Φ => match s with
    | some n => ∃ x, lb = B x ++ twoB D (rc .ready none) ∧ Φ = F x ∧ inv n x
    | none => ∃ x c, lb = B x ++ twoB D (rc .done (some c)) ∧ Φ = F x ∧ stop c x) (fun D rc => finS P D B F inv stop rc) ?_ ?_ ?_ ?_ ?_
  · intro D rc s c lb Φ h
    cases s with
    | some n => obtain ⟨y, h1, h2⟩ := h; exact ⟨_, _, h2, y, rfl, rfl, h1⟩
    | none => obtain ⟨y, h1, h2⟩ := h; exact ⟨_, _, h2, y, c, rfl, rfl, h1⟩
  · exact fun D rc => ⟨_, _, hi D _, ⟨x0, rfl, rfl, h0⟩, hΦ.ok⟩
  · rintro D rc n lb Φ I y ⟨x, rfl, rfl, hx⟩ ha _
    obtain ⟨a, ha2, rfl⟩ : ∃ a, X[n]? = some a ∧ pubV a = I := by simpa [fixd] using ha
    refine ⟨hpl D x _, nth_two _ _ _ (hm x), ?_⟩
    have h1 := (hround D rc n x a hx ha2).go
    rw [appK_eq, arrK_eq] at h1
    exact h1
  · rintro D rc lb Φ ⟨x, rfl, rfl, hx⟩
    rw [fixd, List.length_map] at hx
    refine ⟨nth_two _ _ _ (hm x), fun o => ?_⟩
    rw [setK_eq]
    have h1 := (hdone D x o hx).go
    rw [appK_eq] at h1
    show Q _ _ _ ((B x ++ twoB D _).set _ _) _
    unfold twoB
    rw [set_two _ _ _ _ (hm x)]
    exact h1
  · rintro D rc lb Φ ⟨x, c, rfl, rfl, hx⟩
    refine ⟨c, nth_two _ _ _ (hm x), fun o => ?_⟩
    rw [setK_eq]
    have h1 := (hstop D c x o hx).go
    rw [appK_eq] at h1
    unfold twoB
    rw [set_two _ _ _ _ (hm x)]
    exact h1
/-- facts stay -/
theorem SemC.rangeC {σ : Type} {Q : QT} {gO : Operand} {ps : Array Tmp} {assign body : Code} {gf : FuncId} {caps : List SV} {Φ0 : Facts} {R : LBs → Facts → Prop} (B : LBs → σ → LBs) (inv : Nat → σ → Prop) (stop : Code → σ → Prop) (X : List (List SV)) (m : Nat)
    (hIt : It P gf [] caps Φ0 (fixd X) R) (x0 : σ) (h0 : inv 0 x0) (hm : ∀ x, (B lb x).length = m) (hi : ∀ D r, Imp P (lb ++ twoB D r) Φ (B lb x0 ++ twoB D r) Φ) (hΦ : SubK Φ0 Φ) (hg : evS env gO fun v => v.den = (SV.fn gf [] caps).den)
    (hround : ∀ (D : Nat) (rc : LoopState → Option Code → Loop) n x a, inv n x → X[n]? = some a → Nx1 (appK (B lb x) (twoB D (rc .ready none)) fun lb' => arrK ps fun ps => paramsK nt ps a env fun env => roundQ P nt (D + 1) (m + 1) assign body env (finS P D (B lb) (fun _ => Φ) inv stop rc) n (rc .ready none) (rc .busy none) (fun c => rc .done (some c)) lb' Φ))
    (hdone : ∀ D x o, inv X.length x → Nx (appK (B lb x) [(D, .obj (.deferred (some []))), (D + 1, .obj o)] fun lb => Q .normal env (markD D :: ds) lb Φ))
    (hstop : ∀ D c x o, stop c x → Nx2 (appK (B lb x) [(D, .obj (.deferred (some []))), (D + 1, .obj o)] fun lb => wpC P nt none c env (markD D :: ds) lb Φ Q)) (hfn : isFn P gf := by exact fun _ _ => rfl) (hpl : ∀ D x r, plainK (B lb x ++ twoB D r) := by first | exact fun _ _ _ => trivial | exact fun _ _ _ => fixd_plain _) :
    SemC P nt none (.rangeFunc gO ps assign body) env ds lb Φ Q :=
  SemC.rangeS (B lb) (fun _ => Φ) inv stop X m hIt x0 h0 hm hi hΦ hg hround hdone hstop hfn hpl
end Go.Proofs.YtikjigkkhdkibaaGreatDoor.W

/- Errors: pointers held against pointers, methods that are not there. Over any program. -/
namespace Go.Proofs.YtikjigkkhdkibaaGreatDoor.W
open Go.RowKit
variable {P : Program} {nt : Nat} {ro : Option Nat} {env env' : Env} {ds : List Deferred} {lb lb' : LBs} {Φ Φ' : Facts} {ω : Amb} {A : Nat → Prop} {w : World} {E : Operand → Value}
theorem BR.noK {b : Bool} {x y : Prop} (hb : b = false) (h : y) : BR b x y := ⟨fun e => Bool.noConfusion (hb.symm.trans e), fun _ => h⟩
theorem BR.yesK {b : Bool} {x y : Prop} (hb : b = true) (h : x) : BR b x y := ⟨fun _ => h, fun e => Bool.noConfusion (hb.symm.trans e)⟩
/-- two places in blocks of cells of which nothing is frozen -/
theorem run_sameAddr {a b : Nat} {cs cs' : Array Value} {t t' : TypeId} (ha : w.heap[a]? = some (.cells cs t (0, 0))) (hb : w.heap[b]? = some (.cells cs' t' (0, 0))) :
    (sameAddr ⟨a, 0, none⟩ ⟨b, 0, none⟩).run P w = .ok (decide (a = b)) w := by
  by_cases e : a = b
  · subst e
    simp [sameAddr]
  · have f : ∀ o, w.frozen? ⟨a, o, none⟩ = false := fun o => by unfold World.frozen?; rw [ha]; simp
    have g : ∀ o, w.frozen? ⟨b, o, none⟩ = false := fun o => by unfold World.frozen?; rw [hb]; simp
    have sa : w.shape? a = some (t, cs.size) := by unfold World.shape?; rw [ha]
    have sb : w.shape? b = some (t', cs'.size) := by unfold World.shape?; rw [hb]
    simp [sameAddr, e, frozen, noView, viewAt, shape, mayBeOne, stringish, Sem.run, f, g, sa, sb, Result.andThen]
/-- == of two pointers of one type, in interfaces -/
theorem BinS.errs {c : Bool} {op : BinOp} {t T e : TypeId} {a b : Nat} {ms : Array (String × TypeId)} {i j : TypeInfo} {q : SV → Prop} (ht : P.underlying t = some (.interface ms)) (hT : P.underlying T = some (.pointer e)) (hi : P.info? T = some i) (hc : i.comparable = true) (hj : P.info? e = some j) (hs : j.size ≠ 0)
    (hf : a = b ∨ ∃ (cs cs' : List SV) (t1 t2 : TypeId), blkF a cs t1 ∈ Φ ∧ blkF b cs' t2 ∈ Φ) (h : nilEq op (decide (a = b)) q) : BinS P Φ c op t (.iface T (.raw (.pointer (some ⟨a, 0, none⟩)))) (.iface T (.raw (.pointer (some ⟨b, 0, none⟩)))) q := by
  have key : ∀ A w, Hold Φ A w → (Op.equal t (.iface T (.pointer (some ⟨a, 0, none⟩))) (.iface T (.pointer (some ⟨b, 0, none⟩)))).run P w = .ok (decide (a = b)) w := by
    intro A w hh
    have hsame : (sameAddr ⟨a, 0, none⟩ ⟨b, 0, none⟩).run P w = .ok (decide (a = b)) w := by
      rcases hf with rfl | ⟨cs, cs', t1, t2, h1, h2⟩
      · simp [sameAddr]
      · exact run_sameAddr (hh _ h1).2 (hh _ h2).2
    have e2 : ∀ n, (Op.equalIn (n + 2) t (.iface T (.pointer (some ⟨a, 0, none⟩))) (.iface T (.pointer (some ⟨b, 0, none⟩)))).run P w = .ok (decide (a = b)) w := fun n => by
      rw [show n + 2 = (n + 1) + 1 from rfl]
      simp [Op.equalIn, tUnd ht, tUnd hT, tInfo hi, tSize hj, hs, hsame, hc, Result.andThen]
    exact e2 9998
  have hq : ∀ (op : BinOp) (x y : Operand) w, (eqGuard op t x y (.iface T (.pointer (some ⟨a, 0, none⟩))) (.iface T (.pointer (some ⟨b, 0, none⟩)))).run P w = .ok () w := fun op x y w => by
    cases op <;> simp [eqGuard]
  rcases nilEq_ok h with ⟨rfl, h⟩ | ⟨rfl, h⟩
  · refine ⟨_, h, fun E d ty pos af g xo yo u A w hh hx hy _ => ?_⟩
    have hx' : E xo = .iface T (.pointer (some ⟨a, 0, none⟩)) := hx
    have hy' : E yo = .iface T (.pointer (some ⟨b, 0, none⟩)) := hy
    simp only [execOp, hx', hy', Sem.run_bind, hq, Result.andThen, binOp, key A w hh, Sem.run_pure]
    rfl
  · refine ⟨_, h, fun E d ty pos af g xo yo u A w hh hx hy _ => ?_⟩
    have hx' : E xo = .iface T (.pointer (some ⟨a, 0, none⟩)) := hx
    have hy' : E yo = .iface T (.pointer (some ⟨b, 0, none⟩)) := hy
    simp only [execOp, hx', hy', Sem.run_bind, hq, Result.andThen, binOp, key A w hh, Sem.run_pure]
    rfl
end Go.Proofs.YtikjigkkhdkibaaGreatDoor.W

/- The data of the program: lists in memory, sketches. Over any program. -/
namespace Go.Proofs.YtikjigkkhdkibaaGreatDoor.W
open Go.RowKit
def encU (x : UInt64) : List SV := [.int .u64 x.toNat]
structure Bin where
  at_ : Int
  n : UInt64
  deriving DecidableEq
def encBin (b : Bin) : List SV := [.int .i64 b.at_, .int .u64 b.n.toNat]
/-- a list in memory -/
structure Sli (α : Type) where
  l : List α
  p : Option Addr
  c : Nat
def Sli.sv {α : Type} (x : Sli α) : SV := .raw (.slice x.p x.l.length x.c)
def Sli.f {α : Type} (enc : α → List SV) (k : Nat) (x : Sli α) : Fact := slF enc k x.p x.l.length x.c x.l
variable {P : Program} {nt : Nat} {ro : Option Nat} {env env' : Env} {ds : List Deferred} {lb lb' : LBs} {Φ Φ' : Facts} {ω : Amb} {A : Nat → Prop} {w : World} {E : Operand → Value}
theorem SlW.s {α : Type} {enc : α → List SV} {k a b m : Nat} {q : SV → Facts → Prop} {x : Sli α} (hm : x.f enc k ∈ Φ) (hb : a ≤ b ∧ b ≤ x.l.length ∧ (b ≤ m ∨ m = x.c) ∧ (m ≤ x.c ∨ m ≤ x.l.length)) (hq : ∀ y : Sli α, y.l = (x.l.take b).drop a → y.c = m - a → q y.sv [y.f enc k]) : SlW Φ x.p x.l.length x.c k a b m q :=
  SlW.mk' hm hb fun p' => by
    have h := hq ⟨(x.l.take b).drop a, p', m - a⟩ rfl rfl
    have e : ((x.l.take b).drop a).length = b - a := by rw [List.length_drop, List.length_take, Nat.min_eq_left hb.2.1]
    simp only [Sli.sv, Sli.f, e] at h
    exact h
theorem RdE.s {α : Type} {enc : α → List SV} {k e : Nat} {q : List SV → Prop} {x : Sli α} (hm : x.f enc k ∈ Φ) (he : e < x.l.length) (hq : ∀ y, x.l[e]? = some y → q (enc y)) : RdE Φ x.p x.l.length x.c k e q := RdE.mk' hm he hq
theorem BsV.s {α : Type} {enc : α → List SV} {k : Nat} {vs : List SV} {q : SV → LBs → Facts → Prop} (L : List α) (h : EncL enc L (vs.map cellsOf)) (hok : ∀ x ∈ L, okE enc k x) (hq : ∀ y : Sli α, y.l = L → q y.sv lb (y.f enc k :: Φ)) : BsV lb Φ k vs q := by
  refine ⟨α, enc, L, h, hok, fun p => ?_⟩
  have h1 := hq ⟨L, p, vs.length⟩ rfl
  have e : L.length = vs.length := by simpa using h.flat.2
  simp only [Sli.sv, Sli.f, e] at h1
  exact h1
/-- nothing, as a row of one's own -/
theorem Imp.nilVec {α : Type} (enc : α → List SV) (k : Nat) (t : TypeId) : Imp P lb Φ (lb ++ [(0, .vec enc k t none 0 0 [])]) Φ := fun ω w hr => by
  have hg : ∀ (i : Nat) (p : Ent), (sem (lb ++ [(0, .vec enc k t none 0 0 ([] : List α))]))[i]? = some p → p.real → (sem lb)[i]? = some p := fun i p hp hrp => by
    rw [sem_snoc] at hp
    rcases get_snoc hp with hp | ⟨_, rfl⟩
    · exact hp
    · exact absurd rfl hrp
  have hoff : ∀ b, Off (sem lb) b → Off (sem (lb ++ [(0, .vec enc k t none 0 0 ([] : List α))])) b := fun b h i p hp hrp => h i p (hg i p hp hrp) hrp
  refine ⟨⟨hr.st.kept, fun i j p q hp hq h1 h2 e => hr.st.inj i j p q (hg _ _ hp h1) (hg _ _ hq h2) h1 h2 e, fun i p hp => ?_⟩, hr.hold.kp fun b _ h => ⟨⟨hoff b h.1, h.2⟩, rfl⟩, fun b hb => ⟨(hr.mu b hb).1, hoff b (hr.mu b hb).2⟩, hr.muM, fun b lp xs s hi => ?_⟩
  · rw [sem_snoc] at hp
    rcases get_snoc hp with hp | ⟨_, rfl⟩
    · exact hr.st.own i p hp
    · exact ⟨⟨rfl, Nat.le_refl _, by omega, by simp, fun h => absurd rfl h, fun _ => rfl⟩, fun h => absurd rfl h⟩
  · rcases nth_snoc hi with hi | hi
    · exact hr.amb _ _ _ _ hi
    · cases hi
/-- a row of one's own is given up -/
theorem Imp.pubS (i : Nat) {b : Nat} {α : Type} {enc : α → List SV} {k n c : Nat} {t : TypeId} {p : Option Addr} {L : List α} (hi : nth lb i = some (b, .vec enc k t p n c L)) (hn : L.length = n) :
    Imp P lb Φ (lb.set i (b, .hole)) ((Sli.mk L p c).f enc k :: Φ) := by subst hn; exact Imp.pubVec i hi
theorem app_le {n b N : Nat} (h : n ≤ N) (hb : N * b ≤ 140737488355328) : n * b ≤ 140737488355328 := Nat.le_trans (Nat.mul_le_mul_right _ h) hb
/-! numbers of 64 digits -/
theorem wrapU (e : Int) : IntKind.u64.wrap e = e % 18446744073709551616 := rfl
theorem AR.addU {x y : UInt64} {q : Int → Prop} (h : q ((x + y).toNat : Int)) : AR .u64 ((x.toNat : Int) + (y.toNat : Int)) q := AR.is (by rw [wrapU, UInt64.toNat_add]; omega) h
theorem AR.subU {x y : UInt64} {q : Int → Prop} (h : q ((x - y).toNat : Int)) : AR .u64 ((x.toNat : Int) - (y.toNat : Int)) q := AR.is (by
  have := x.toNat_lt; have := y.toNat_lt
  rw [wrapU, UInt64.toNat_sub]; omega) h
theorem AR.mulU {x y : UInt64} {q : Int → Prop} (h : q ((x * y).toNat : Int)) : AR .u64 ((x.toNat : Int) * (y.toNat : Int)) q := AR.is (by rw [wrapU, UInt64.toNat_mul, Int.natCast_emod, Int.natCast_mul]; rfl) h
def U (e : Int) : UInt64 := UInt64.ofNat (e % 18446744073709551616).toNat
theorem U_toNat (e : Int) : ((U e).toNat : Int) = e % 18446744073709551616 := by
  unfold U
  rw [UInt64.toNat_ofNat']
  omega
theorem U_is {e : Int} (h : 0 ≤ e ∧ e ≤ 18446744073709551615) : ((U e).toNat : Int) = e := by rw [U_toNat]; omega
theorem U_nat (x : UInt64) : U x.toNat = x := by
  rw [← UInt64.toNat_inj]
  have := x.toNat_lt
  have := U_toNat x.toNat
  omega
theorem AR.cvU {e : Int} {q : Int → Prop} (h : q ((U e).toNat : Int)) : AR .u64 e q := AR.is (by rw [wrapU, U_toNat]) h
theorem encU_U {e : Int} (h : 0 ≤ e ∧ e ≤ 18446744073709551615) : encU (U e) = [.int .u64 e] := by rw [encU, U_is h]
theorem okU (x : UInt64) : okE encU 1 x := ⟨rfl, rfl⟩
theorem okBin (x : Bin) : okE encBin 2 x := ⟨rfl, rfl⟩
/-- a sketch -/
structure Sk where
  kind : Int
  level : Int
  e : List UInt64
  bits : Int
  regs : List UInt8
  rows : Int
  cols : Int
  c : List UInt64
  fine : Int
  g : List Bin
  deriving DecidableEq
/-- its parts cut -/
def Sk.few (x : Sk) : Sk := { x with e := x.e.take 70, regs := x.regs.take 260, c := x.c.take 200, g := x.g.take 300 }
/-- a sketch in memory -/
structure SkV where
  kind : Int
  level : Int
  e : Sli UInt64
  bits : Int
  regs : List UInt8
  rows : Int
  cols : Int
  c : Sli UInt64
  fine : Int
  g : Sli Bin
def SkV.cs (x : SkV) : List SV := [.int .i64 x.kind, .int .i64 x.level, x.e.sv, .int .i64 x.bits, .str x.regs, .int .i64 x.rows, .int .i64 x.cols, x.c.sv, .int .i64 x.fine, x.g.sv]
def SkV.sv (x : SkV) : SV := .agg x.cs
/-- a fact of no memory -/
def pureF (p : Prop) : Fact := ⟨fun _ _ => p, fun _ _ _ _ _ h => h⟩
theorem Imp.pure {p : Prop} (h : p) : Imp P lb Φ lb (pureF p :: Φ) := Imp.fact fun _ _ _ => h
def SkV.fs (x : SkV) : Facts := [x.e.f encU 1, x.c.f encU 1, x.g.f encBin 2, pureF (x.regs.length ≤ 9223372036854775807)]
def SkV.sk (x : SkV) : Sk := ⟨x.kind, x.level, x.e.l, x.bits, x.regs, x.rows, x.cols, x.c.l, x.fine, x.g.l⟩
theorem u64_inj {x y : UInt64} : ((x.toNat : Int) = (y.toNat : Int)) = (x = y) := by
  rw [eq_iff_iff]
  constructor
  · intro h; exact UInt64.toNat_inj.1 (by omega)
  · rintro rfl; rfl
theorem u64_zero {x : UInt64} : ((x.toNat : Int) = 0) = (x = 0) := u64_inj (y := 0)
theorem Bin.eq_iff {x y : Bin} : x = y ↔ x.at_ = y.at_ ∧ x.n = y.n := by
  cases x; cases y; simp
theorem take_all {α : Type} {l : List α} {i : Nat} (h : l.length ≤ i) : l.take i = l := List.take_of_length_le h
theorem take_snoc {α : Type} {l : List α} {i : Nat} {x : α} (h : l[i]? = some x) : l.take (i + 1) = l.take i ++ [x] := by
  rw [List.take_add_one, h]; rfl
theorem drop_cons {α : Type} {l : List α} {i : Nat} {x : α} (h : l[i]? = some x) : l.drop i = x :: l.drop (i + 1) := by
  obtain ⟨hlt, rfl⟩ := List.getElem?_eq_some_iff.1 h
  exact List.drop_eq_getElem_cons hlt
theorem drop_all {α : Type} {l : List α} {i : Nat} (h : l.length ≤ i) : l.drop i = [] := List.drop_of_length_le h
/-! ### exact -/
def encU2 (a b : UInt64) : List SV := [.int .u64 a.toNat, .int .u64 b.toNat]
/-- each number with the one ahead -/
def pairsU (l : List UInt64) : List (List SV) := (l.zip l.tail).map fun p => encU2 p.1 p.2
theorem pairsU_len (l : List UInt64) : (pairsU l).length = l.length - 1 := by simp [pairsU]
theorem pairsU_get {l : List UInt64} {i : Nat} {a b : UInt64} (ha : l[i]? = some a) (hb : l[i + 1]? = some b) : (pairsU l)[i]? = some (encU2 a b) := by
  have : (l.zip l.tail)[i]? = some (a, b) := by rw [List.getElem?_zip_eq_some]; simp [ha, hb]
  simp [pairsU, this]
theorem pairsU_at {l : List UInt64} {i : Nat} {a b : UInt64} (ha : l[i]? = some a) (hb : l[i + 1]? = some b) : ((pairsU l).map dens)[i]? = some (dens [.int .u64 a.toNat, .int .u64 b.toNat]) := by
  simp [pairsU_get ha hb, encU2]
theorem pairsU_inv {l : List UInt64} {i : Nat} {v : List SV} (h : (pairsU l)[i]? = some v) : ∃ a b, l[i]? = some a ∧ l[i + 1]? = some b ∧ v = encU2 a b := by
  simp only [pairsU, List.getElem?_map, Option.map_eq_some_iff] at h
  obtain ⟨⟨a, b⟩, h1, rfl⟩ := h
  rw [List.getElem?_zip_eq_some] at h1
  exact ⟨a, b, h1.1, by simpa using h1.2, rfl⟩
def risesU : List UInt64 → Bool
  | a :: b :: l => decide (a < b) && risesU (b :: l)
  | _ => true
theorem risesU_1 (l : List UInt64) : risesU (l.take 1) = true := by
  match l with
  | [] => rfl
  | [x] => rfl
  | x :: y :: l => rfl
theorem risesU_snoc {l : List UInt64} {i : Nat} {a b : UInt64} (ha : l[i]? = some a) (hb : l[i + 1]? = some b) : risesU (l.take (i + 2)) = (risesU (l.take (i + 1)) && decide (a < b)) := by
  induction i generalizing l with
  | zero =>
    match l with
    | [] => simp at ha
    | [x] => simp at hb
    | x :: y :: l => simp at ha hb; subst ha hb; simp [risesU]
  | succ i ih =>
    match l with
    | [] => simp at ha
    | [x] => simp at hb
    | x :: y :: l =>
      have := ih (l := y :: l) (by simpa using ha) (by simpa using hb)
      simp only [List.take_succ_cons, risesU] at this ⊢
      rw [this, Bool.and_assoc]
theorem risesU_take {l : List UInt64} (n : Nat) (h : risesU (l.take n) = false) : risesU l = false := by
  induction n generalizing l with
  | zero => simp [risesU] at h
  | succ n ih =>
    match l with
    | [] => simp [risesU] at h
    | [x] => simp [risesU] at h
    | x :: y :: l =>
      cases n with
      | zero => simp [risesU] at h
      | succ n =>
        simp only [List.take_succ_cons, risesU, Bool.and_eq_false_iff] at h ⊢
        rcases h with h | h
        · exact .inl h
        · exact .inr (ih (l := y :: l) (by simpa using h))
def exactRight (l : List UInt64) : Bool := decide (l.length ≤ 64) && risesU l
/-! ### hll -/
def hllRight (bits : Int) (s : List UInt8) : Bool := decide (3 ≤ bits ∧ bits ≤ 8 ∧ (s.length : Int) = 2 ^ bits.toNat) && s.all fun x => decide ((x.toNat : Int) ≤ 65 - bits)
theorem shl1 {n : Int} (h : 0 ≤ n ∧ n ≤ 62) : IntKind.i64.wrap (1 * 2 ^ (min n.toNat IntKind.i64.bits)) = 2 ^ n.toNat := by
  obtain ⟨m, rfl⟩ : ∃ m : Nat, n = m := ⟨n.toNat, by omega⟩
  have hm : m ≤ 62 := by omega
  have e : min (m : Int).toNat IntKind.i64.bits = m := by simp [IntKind.bits]; omega
  rw [e, Int.one_mul, Int.toNat_natCast]
  refine IntWalk.i64_in _ ?_
  have h1 : (2 : Int) ^ m ≤ 2 ^ 62 := by
    have := Nat.pow_le_pow_right (n := 2) (by omega) hm
    exact_mod_cast this
  have h2 : (0 : Int) ≤ 2 ^ m := Int.le_of_lt (Int.pow_pos (by omega))
  omega
theorem pow_small {n : Int} (h : 0 ≤ n ∧ n ≤ 8) : (1 : Int) ≤ 2 ^ n.toNat ∧ (2 : Int) ^ n.toNat ≤ 256 := by
  have : n.toNat = 0 ∨ n.toNat = 1 ∨ n.toNat = 2 ∨ n.toNat = 3 ∨ n.toNat = 4 ∨ n.toNat = 5 ∨ n.toNat = 6 ∨ n.toNat = 7 ∨ n.toNat = 8 := by omega
  rcases this with h | h | h | h | h | h | h | h | h <;> rw [h] <;> decide
/-! ### cms -/
def isSize (r c : Int) : Bool := decide (1 ≤ r ∧ r ≤ 4 ∧ (c = 4 ∨ c = 8 ∨ c = 16 ∨ c = 32))
def cmsRight (r c : Int) (l : List UInt64) : Bool := isSize r c && decide ((l.length : Int) = r * c)
theorem isSize_mul {r c : Int} (h : isSize r c = true) : 4 ≤ r * c ∧ r * c ≤ 128 := by
  simp only [isSize, decide_eq_true_eq] at h
  obtain ⟨h1, h2, h3⟩ := h
  rcases h3 with rfl | rfl | rfl | rfl <;> omega
theorem mul_small {e : Int} (h : 4 ≤ e ∧ e ≤ 128) : -9223372036854775808 ≤ e ∧ e ≤ 9223372036854775807 := by omega
/-! numbers, as the machine has them -/
def andU (m n : Int) : Int := IntKind.u64.wrap (BitVec.ofInt IntKind.u64.bits m &&& BitVec.ofInt IntKind.u64.bits n).toNat
def orU (m n : Int) : Int := IntKind.u64.wrap (BitVec.ofInt IntKind.u64.bits m ||| BitVec.ofInt IntKind.u64.bits n).toNat
def shrU (m n : Int) : Int := m.fdiv (2 ^ (min n.toNat IntKind.u64.bits))
def shlU (m n : Int) : Int := IntKind.u64.wrap (m * 2 ^ (min n.toNat IntKind.u64.bits))
def addW (m n : Int) : Int := IntKind.u64.wrap (m + n)
def popU (x : Int) : Int :=
  let x := addW (andU (shrU x 1) 6148914691236517205) (andU x 6148914691236517205)
  let x := addW (andU (shrU x 2) 3689348814741910323) (andU x 3689348814741910323)
  let x := andU (addW (shrU x 4) x) 1085102592571150095
  let x := addW x (shrU x 8)
  let x := addW x (shrU x 16)
  let x := addW x (shrU x 32)
  IntKind.i64.wrap (BitVec.ofInt IntKind.i64.bits (IntKind.i64.wrap x) &&& BitVec.ofInt IntKind.i64.bits 127).toNat
theorem popU_size {c : Int} (h : 4 ≤ c ∧ c ≤ 32) : (popU c = 1) ↔ (c = 4 ∨ c = 8 ∨ c = 16 ∨ c = 32) := by
  have key : ∀ n : Fin 33, 4 ≤ n.val → (popU (n.val : Int) = 1 ↔ ((n.val : Int) = 4 ∨ (n.val : Int) = 8 ∨ (n.val : Int) = 16 ∨ (n.val : Int) = 32)) := by decide +kernel
  obtain ⟨n, rfl⟩ : ∃ n : Nat, c = n := ⟨c.toNat, by omega⟩
  exact key ⟨n, by omega⟩ (by show 4 ≤ n; omega)
/-! ### hist -/
def isFine (n : Int) : Bool := decide (0 ≤ n ∧ n ≤ 3)
def shiftI (n by_ : Int) : Int := if by_ < 0 then shrU n (IntKind.i64.wrap (0 - by_)) else shlU n by_
def lenI (m : Int) : Int := if m = 0 then 0 else (Nat.log2 m.toNat + 1 : Nat)
theorem fd32 (m : Nat) : (m : Int).fdiv (2 ^ min (Int.toNat 32) IntKind.u64.bits) = ((m / 4294967296 : Nat) : Int) := by
  rw [Int.fdiv_eq_ediv_of_nonneg _ (by decide)]; rfl
theorem fd16 (m : Nat) : (m : Int).fdiv (2 ^ min (Int.toNat 16) IntKind.u64.bits) = ((m / 65536 : Nat) : Int) := by
  rw [Int.fdiv_eq_ediv_of_nonneg _ (by decide)]; rfl
theorem fd8 (m : Nat) : (m : Int).fdiv (2 ^ min (Int.toNat 8) IntKind.u64.bits) = ((m / 256 : Nat) : Int) := by
  rw [Int.fdiv_eq_ediv_of_nonneg _ (by decide)]; rfl
theorem lenI_div {m : Nat} (k : Nat) (h : 2 ^ k ≤ m) : lenI m = lenI (m / 2 ^ k : Nat) + k := by
  have hp : 0 < 2 ^ k := Nat.two_pow_pos k
  have hm : m ≠ 0 := by omega
  have hd : m / 2 ^ k ≠ 0 := by have := Nat.div_pos h hp; omega
  have e : Nat.log2 m = Nat.log2 (m / 2 ^ k) + k := by
    rw [Nat.log2_eq_iff hm]
    have h1 := (Nat.log2_eq_iff hd).1 rfl
    have h2 := (Nat.le_div_iff_mul_le hp).1 h1.1
    have h3 := (Nat.div_lt_iff_lt_mul hp).1 h1.2
    rw [Nat.pow_add]
    refine ⟨h2, ?_⟩
    rw [show (m / 2 ^ k).log2 + k + 1 = ((m / 2 ^ k).log2 + 1) + k by omega, Nat.pow_add]
    exact h3
  have z1 : ¬ (m : Int) = 0 := by omega
  have z2 : ¬ ((m / 2 ^ k : Nat) : Int) = 0 := by omega
  simp only [lenI, if_neg z1, if_neg z2, Int.toNat_natCast, e]
  omega
def lenTab : List UInt8 := (List.range 256).map fun n => UInt8.ofNat (if n = 0 then 0 else n.log2 + 1)
theorem lenTab_get {j : Nat} {u : UInt8} (h : lenTab[j]? = some u) : (u.toNat : Int) = lenI j := by
  have hj : j < 256 := by have := (List.getElem?_eq_some_iff.1 h).1; simpa [lenTab] using this
  have key : ∀ n : Fin 256, ((lenTab[n.val]?.map fun u => (u.toNat : Int)) = some (lenI (n.val : Int))) := by decide +kernel
  have := key ⟨j, hj⟩
  simpa [h] using this
abbrev W64 (e : Int) : Int := IntKind.i64.wrap e
abbrev WU (e : Int) : Int := IntKind.u64.wrap e
/-- 2 to the power f, as the machine has it -/
abbrev pw (f : Int) : Int := 2 ^ (min f.toNat IntKind.i64.bits)
def bucket (fine v : Int) : Int :=
  if isFine fine = false ∨ v = 0 then 0 else
    W64 (W64 (1 + W64 (W64 (lenI v - 1) * pw fine)) + W64 (andU (shiftI v (W64 (fine - W64 (lenI v - 1)))) (WU (WU (1 * pw fine) - 1))))
/-- a bucket's low end -/
def lowB (fine at_ : Int) : Int := shiftI (orU (WU (1 * pw fine)) (andU (WU (W64 (at_ - 1))) (WU (WU (1 * pw fine) - 1)))) (W64 ((W64 (at_ - 1)).fdiv (pw fine) - fine))
def bOk (fine at_ : Int) : Bool := isFine fine && decide (0 ≤ at_ ∧ at_ ≤ W64 (64 * pw fine)) && (decide (at_ = 0) || decide (0 ≤ W64 ((W64 (at_ - 1)).fdiv (pw fine) - fine)) || decide (bucket fine (lowB fine at_) = at_))
theorem wrapU_range (e : Int) : 0 ≤ WU e ∧ WU e ≤ 18446744073709551615 := by
  show 0 ≤ IntKind.u64.wrap e ∧ IntKind.u64.wrap e ≤ 18446744073709551615
  rw [wrapU]; omega
theorem shiftI_range {n k : Int} (hn : 0 ≤ n ∧ n ≤ 18446744073709551615) : 0 ≤ shiftI n k ∧ shiftI n k ≤ 18446744073709551615 := by
  unfold shiftI
  split
  · have hp : (0 : Int) < 2 ^ (min (IntKind.i64.wrap (0 - k)).toNat IntKind.u64.bits) := Int.pow_pos (by omega)
    unfold shrU
    rw [Int.fdiv_eq_ediv_of_nonneg _ (Int.le_of_lt hp)]
    have h1 := Int.ediv_nonneg hn.1 (Int.le_of_lt hp)
    have h2 := Int.ediv_le_self (2 ^ (min (IntKind.i64.wrap (0 - k)).toNat IntKind.u64.bits)) hn.1
    omega
  · exact wrapU_range _
theorem lenI_range {v : Int} (h : 0 ≤ v ∧ v ≤ 18446744073709551615) : 0 ≤ lenI v ∧ lenI v ≤ 64 := by
  unfold lenI
  split
  · omega
  · have h1 : v.toNat.log2 < 64 := (Nat.log2_lt (by omega)).2 (by omega)
    omega
theorem fine_cases {f : Int} (h : 0 ≤ f ∧ f ≤ 3) : f = 0 ∨ f = 1 ∨ f = 2 ∨ f = 3 := by omega
theorem bucket_sh {f v : Int} (hf : 0 ≤ f ∧ f ≤ 3) (hv : 0 ≤ v ∧ v ≤ 18446744073709551615) : -1000 ≤ W64 (f - W64 (lenI v - 1)) ∧ W64 (f - W64 (lenI v - 1)) ≤ 1000 := by
  have h1 := lenI_range hv
  have h2 : W64 (lenI v - 1) = lenI v - 1 := IntWalk.i64_in _ (by omega)
  rw [h2, show W64 (f - (lenI v - 1)) = f - (lenI v - 1) from IntWalk.i64_in _ (by omega)]
  omega
theorem bound_sh {f a : Int} (hf : 0 ≤ f ∧ f ≤ 3) (ha : 0 ≤ a ∧ a ≤ W64 (64 * pw f)) : -1000 ≤ W64 ((W64 (a - 1)).fdiv (pw f) - f) ∧ W64 ((W64 (a - 1)).fdiv (pw f) - f) ≤ 1000 := by
  have key : ∀ (p q : Int), pw f = p → W64 (64 * p) = q → 1 ≤ p → q ≤ 512 → -1000 ≤ W64 ((W64 (a - 1)).fdiv (pw f) - f) ∧ W64 ((W64 (a - 1)).fdiv (pw f) - f) ≤ 1000 := by
    intro p q hp hq h1 h2
    rw [hp] at ha ⊢
    rw [hq] at ha
    rw [show W64 (a - 1) = a - 1 from IntWalk.i64_in _ (by omega), Int.fdiv_eq_ediv_of_nonneg _ (by omega)]
    have e1 : -1 ≤ (a - 1) / p := by
      rcases Int.lt_or_le a 1 with h | h
      · have : a - 1 = -1 := by omega
        rw [this, Int.neg_one_ediv]
        have := Int.sign_eq_one_of_pos (by omega : (0 : Int) < p)
        omega
      · have := Int.ediv_nonneg (by omega : 0 ≤ a - 1) (by omega : 0 ≤ p); omega
    have e2 : (a - 1) / p ≤ 512 := by
      rcases Int.lt_or_le a 1 with h | h
      · have := Int.ediv_neg_of_neg_of_pos (by omega : a - 1 < 0) (by omega : 0 < p); omega
      · have := Int.ediv_le_self p (by omega : 0 ≤ a - 1); omega
    rw [show W64 ((a - 1) / p - f) = (a - 1) / p - f from IntWalk.i64_in _ (by omega)]
    omega
  rcases fine_cases hf with rfl | rfl | rfl | rfl
  · exact key 1 64 rfl rfl (by omega) (by omega)
  · exact key 2 128 rfl rfl (by omega) (by omega)
  · exact key 4 256 rfl rfl (by omega) (by omega)
  · exact key 8 512 rfl rfl (by omega) (by omega)
theorem bOk_range {f a : Int} (h : bOk f a = true) : (0 ≤ f ∧ f ≤ 3) ∧ 0 ≤ a ∧ a ≤ 512 := by
  simp only [bOk, isFine, Bool.and_eq_true, decide_eq_true_eq] at h
  refine ⟨h.1.1, h.1.2.1, ?_⟩
  rcases fine_cases h.1.1 with rfl | rfl | rfl | rfl
  · exact Int.le_trans h.1.2.2 (by decide)
  · exact Int.le_trans h.1.2.2 (by decide)
  · exact Int.le_trans h.1.2.2 (by decide)
  · exact Int.le_trans h.1.2.2 (by decide)
def hOk (fine : Int) : Int → List Bin → Bool
  | _, [] => true
  | last, b :: r => bOk fine b.at_ && decide (b.n ≠ 0) && decide (last < b.at_) && hOk fine b.at_ r
def histRight (fine : Int) (l : List Bin) : Bool := isFine fine && hOk fine (-1) l
end Go.Proofs.YtikjigkkhdkibaaGreatDoor.W

/- Numbers as bytes. Over any program. -/
namespace Go.Proofs.YtikjigkkhdkibaaGreatDoor.W
open Go.RowKit
/-- a row of one's own that grows -/
structure VecS (α : Type) where
  b : Nat
  p : Option Addr
  n : Nat
  c : Nat
  L : List α
/-- the last so many bytes of a number, the greatest one first -/
def be (n : Nat) : Nat → List UInt8
  | 0 => []
  | k + 1 => UInt8.ofNat (n / 256 ^ k) :: be n k
theorem be_len (n k : Nat) : (be n k).length = k := by
  induction k with
  | zero => rfl
  | succ k ih => simp [be, ih]
theorem be_get {n k j : Nat} (h : j < k) : (be n k)[j]? = some (UInt8.ofNat (n / 256 ^ (k - 1 - j))) := by
  induction k generalizing j with
  | zero => omega
  | succ k ih =>
    cases j with
    | zero => simp [be]
    | succ j =>
      simp only [be, List.getElem?_cons_succ]
      rw [ih (by omega)]
      congr 4
      omega
def bytesX (n k : Nat) : List (List SV) := (be n k).map encB
theorem bytesX_len (n k : Nat) : (bytesX n k).length = k := by simp [bytesX, be_len]
theorem bytesX_at {n k j : Nat} {e : Int} (h : j < k) (he : e = ((UInt8.ofNat (n / 256 ^ (k - 1 - j))).toNat : Int)) : ((bytesX n k).map dens)[j]? = some (dens [.int .u8 e]) := by
  subst he
  simp only [bytesX, List.map_map, List.getElem?_map, be_get h, Option.map_some]
  rfl
theorem bytesX_inv {n k j : Nat} {a : List SV} (h : (bytesX n k)[j]? = some a) : ∃ b, (be n k)[j]? = some b ∧ a = encB b ∧ j < k := by
  have hj : j < k := by have := (List.getElem?_eq_some_iff.1 h).1; rwa [bytesX_len] at this
  simp only [bytesX, List.getElem?_map, Option.map_eq_some_iff] at h
  obtain ⟨b, h1, rfl⟩ := h
  exact ⟨b, h1, rfl, hj⟩
theorem shr8 {n k : Int} (hn : 0 ≤ n) (hk : 0 ≤ k ∧ k ≤ 7) : n.fdiv (2 ^ (min (8 * k).toNat IntKind.u64.bits)) = ((n.toNat / 256 ^ k.toNat : Nat) : Int) := by
  have hc : k = 0 ∨ k = 1 ∨ k = 2 ∨ k = 3 ∨ k = 4 ∨ k = 5 ∨ k = 6 ∨ k = 7 := by omega
  obtain ⟨m, rfl⟩ : ∃ m : Nat, n = m := ⟨n.toNat, by omega⟩
  rcases hc with rfl | rfl | rfl | rfl | rfl | rfl | rfl | rfl <;> rw [Int.fdiv_eq_ediv_of_nonneg _ (by decide)] <;> rfl
theorem wrapB (m : Nat) : IntKind.u8.wrap (m : Int) = ((UInt8.ofNat m).toNat : Int) := by
  rw [IntKind.wrap_u8, UInt8.toNat_ofNat']
  omega
theorem encB_of {e : Int} (h : 0 ≤ e ∧ e ≤ 255) : encB (UInt8.ofNat e.toNat) = [.int .u8 e] := by
  simp only [encB, UInt8.toNat_ofNat']
  congr 2
  omega
/-- how many bytes a great number takes -/
def szF (n : Nat) : Nat → Nat → Nat
  | 0, k => k
  | f + 1, k => if k < 8 ∧ n / 256 ^ k ≠ 0 then szF n f (k + 1) else k
def sz (n : Nat) : Nat := szF n 5 3
theorem szF_step {n f k : Nat} (h : k < 8 ∧ n / 256 ^ k ≠ 0) (hf : f + k = 8) : szF n f k = szF n (f - 1) (k + 1) := by
  cases f with
  | zero => omega
  | succ f => simp [szF, h]
theorem szF_stop {n f k : Nat} (h : ¬ (k < 8 ∧ n / 256 ^ k ≠ 0)) : szF n f k = k := by
  cases f with
  | zero => rfl
  | succ f => simp only [szF, if_neg h]
/-- a number's bytes -/
def putN (n : Nat) : List UInt8 :=
  if n ≤ 240 then [UInt8.ofNat n]
  else if n ≤ 2287 then UInt8.ofNat (241 + (n - 240) / 256) :: be (n - 240) 1
  else if n ≤ 67823 then 249 :: be (n - 2288) 2
  else UInt8.ofNat (247 + sz n) :: be n (sz n)
theorem fd8i {m : Int} (_ : 0 ≤ m) : m.fdiv (2 ^ min (Int.toNat 8) IntKind.u64.bits) = m / 256 := by
  rw [Int.fdiv_eq_ediv_of_nonneg _ (by decide)]; rfl
/-- the number that bytes are, the greatest one first -/
def beVal (l : List UInt8) : Nat := l.foldl (fun a b => a * 256 + b.toNat) 0
theorem beVal_snoc (l : List UInt8) (b : UInt8) : beVal (l ++ [b]) = beVal l * 256 + b.toNat := by simp [beVal]
theorem beVal_lt (l : List UInt8) : beVal l < 256 ^ l.length := by
  have key : ∀ (l : List UInt8) (a m : Nat), a < m → l.foldl (fun a b => a * 256 + b.toNat) a < m * 256 ^ l.length := by
    intro l
    induction l with
    | nil => intro a m h; simpa using h
    | cons b l ih =>
      intro a m h
      have hb := b.toNat_lt
      have := ih (a * 256 + b.toNat) (m * 256) (by omega)
      simp only [List.foldl_cons, List.length_cons, Nat.pow_succ]
      rw [show m * (256 ^ l.length * 256) = m * 256 * 256 ^ l.length by rw [Nat.mul_comm (256 ^ l.length) 256, Nat.mul_assoc]]
      exact this
  simpa [beVal] using key l 0 1 (by omega)
theorem or_add {x : Nat} {b : UInt8} (hx : x * 256 ≤ 18446744073709551360) : (((BitVec.ofInt IntKind.u64.bits ((x * 256 : Nat) : Int) ||| BitVec.ofInt IntKind.u64.bits (b.toNat : Int)).toNat : Nat) : Int) = ((x * 256 + b.toNat : Nat) : Int) := by
  have hb := b.toNat_lt
  have e1 : (BitVec.ofInt IntKind.u64.bits ((x * 256 : Nat) : Int)).toNat = x * 256 := by
    show (BitVec.ofInt 64 _).toNat = _
    rw [BitVec.toNat_ofInt]; omega
  have e2 : (BitVec.ofInt IntKind.u64.bits (b.toNat : Int)).toNat = b.toNat := by
    show (BitVec.ofInt 64 _).toNat = _
    rw [BitVec.toNat_ofInt]; omega
  rw [BitVec.toNat_or, e1, e2]
  congr 1
  rw [show x * 256 = 2 ^ 8 * x by omega]
  exact (Nat.two_pow_add_eq_or_of_lt (by omega) x).symm
theorem be_small {l : List UInt8} (h : l.length ≤ 7) : beVal l * 256 ≤ 18446744073709551360 := by
  have h1 := beVal_lt l
  have h2 : 256 ^ l.length ≤ 256 ^ 7 := Nat.pow_le_pow_right (by omega) h
  have h3 : (256 : Nat) ^ 7 = 72057594037927936 := rfl
  omega
theorem shl_be {l : List UInt8} (h : l.length ≤ 7) : IntKind.u64.wrap ((beVal l : Int) * 2 ^ min (Int.toNat 8) IntKind.u64.bits) = ((beVal l * 256 : Nat) : Int) := by
  have h1 := be_small h
  have e : (2 : Int) ^ min (Int.toNat 8) IntKind.u64.bits = 256 := rfl
  rw [e, IntWalk.u64_in _ (by omega)]
  omega
theorem or_be {l : List UInt8} {u : UInt8} (h : l.length ≤ 7) : IntKind.u64.wrap (((BitVec.ofInt IntKind.u64.bits ((beVal l * 256 : Nat) : Int) ||| BitVec.ofInt IntKind.u64.bits (u.toNat : Int)).toNat : Nat) : Int) = (beVal (l ++ [u]) : Int) := by
  have h1 := be_small h
  have hu := u.toNat_lt
  rw [or_add h1, IntWalk.u64_in _ (by omega), beVal_snoc]
theorem be_max8 {l : List UInt8} (h : l.length ≤ 8) : beVal l ≤ 18446744073709551615 := by
  have h1 := beVal_lt l
  have h2 : 256 ^ l.length ≤ 256 ^ 8 := Nat.pow_le_pow_right (by omega) h
  have h3 : (256 : Nat) ^ 8 = 18446744073709551616 := rfl
  omega
theorem be_max2 {l : List UInt8} (h : l.length ≤ 2) : beVal l ≤ 65535 := by
  have h1 := beVal_lt l
  have h2 : 256 ^ l.length ≤ 256 ^ 2 := Nat.pow_le_pow_right (by omega) h
  have h3 : (256 : Nat) ^ 2 = 65536 := rfl
  omega
theorem AR.addBe8 {l : List UInt8} {q : Int → Prop} (h : l.length ≤ 8) (hq : q ((beVal l : Int) + 0)) : AR .u64 ((beVal l : Int) + 0) q := AR.u64 (by have := be_max8 h; omega) hq
theorem AR.addBe2 {l : List UInt8} {c : Int} {q : Int → Prop} (h : l.length ≤ 2) (hc : 0 ≤ c ∧ c ≤ 100000) (hq : q ((beVal l : Int) + c)) : AR .u64 ((beVal l : Int) + c) q := AR.u64 (by have := be_max2 h; omega) hq
/-- what comes of reading a number -/
inductive GetR where
  | more
  | bad
  | ok (n : Nat) (rest : List UInt8)
/-- how many bytes are behind the first one, and what they count from -/
def sizeBase (f : Nat) : Nat × Nat := if f ≥ 250 then (f - 247, 0) else if f = 249 then (2, 2288) else if f ≥ 241 then (1, 240 + (f - 241) * 256) else (0, f)
def getF : List UInt8 → GetR
  | [] => .more
  | f :: r =>
    if r.length < (sizeBase f.toNat).1 then .more
    else if putN (beVal (r.take (sizeBase f.toNat).1) + (sizeBase f.toNat).2) ≠ (f :: r).take (1 + (sizeBase f.toNat).1) then .bad
    else .ok (beVal (r.take (sizeBase f.toNat).1) + (sizeBase f.toNat).2) (r.drop (sizeBase f.toNat).1)
/-! ### pointers that came from elsewhere -/
/-- a place in a block of cells of which nothing is frozen, that nobody turns -/
def ptF (a : Addr) : Fact := ⟨fun A w => A a.block ∧ ∃ cs t, w.heap[a.block]? = some (.cells cs t (0, 0)), fun _ _ _ _ t h => by
  obtain ⟨h1, cs, ty, h2⟩ := h
  have h3 := t a.block (lt_of_some h2) h1
  exact ⟨h3.1, cs, ty, h3.2.trans h2⟩⟩
theorem run_sameAddrG {P : Program} {w : World} {a b : Addr} {cs cs' : Array Value} {t t' : TypeId} (ha : w.heap[a.block]? = some (.cells cs t (0, 0))) (hb : w.heap[b.block]? = some (.cells cs' t' (0, 0))) :
    (sameAddr a b).run P w = .ok (decide (a = b)) w := by
  by_cases e : a.block = b.block
  · simp only [sameAddr, e, beq_self_eq_true, if_true, Sem.run_pure]
    congr 1
  · have f : ∀ o s, w.frozen? ⟨a.block, o, s⟩ = false := fun o s => by unfold World.frozen?; rw [ha]; simp
    have g : ∀ o s, w.frozen? ⟨b.block, o, s⟩ = false := fun o s => by unfold World.frozen?; rw [hb]; simp
    have sa : w.shape? a.block = some (t, cs.size) := by unfold World.shape?; rw [ha]
    have sb : w.shape? b.block = some (t', cs'.size) := by unfold World.shape?; rw [hb]
    have ne : a ≠ b := fun h => e (by rw [h])
    simp [sameAddr, e, ne, frozen, noView, viewAt, shape, mayBeOne, stringish, Sem.run, f, g, sa, sb, Result.andThen]
theorem BinS.errs2 {P : Program} {Φ : Facts} {c : Bool} {op : BinOp} {t T e : TypeId} {a b : Addr} {ms : Array (String × TypeId)} {i j : TypeInfo} {q : SV → Prop} (ht : P.underlying t = some (.interface ms)) (hT : P.underlying T = some (.pointer e)) (hi : P.info? T = some i) (hc : i.comparable = true) (hj : P.info? e = some j) (hs : j.size ≠ 0)
    (ha : ptF a ∈ Φ) (hb : ptF b ∈ Φ) (h : nilEq op (decide (a = b)) q) : BinS P Φ c op t (.iface T (.raw (.pointer (some a)))) (.iface T (.raw (.pointer (some b)))) q := by
  have key : ∀ A w, Hold Φ A w → (Op.equal t (.iface T (.pointer (some a))) (.iface T (.pointer (some b)))).run P w = .ok (decide (a = b)) w := by
    intro A w hh
    have hsame : (sameAddr a b).run P w = .ok (decide (a = b)) w := by
      obtain ⟨_, cs, t1, h1⟩ := hh _ ha
      obtain ⟨_, cs', t2, h2⟩ := hh _ hb
      exact run_sameAddrG h1 h2
    have e2 : ∀ n, (Op.equalIn (n + 2) t (.iface T (.pointer (some a))) (.iface T (.pointer (some b)))).run P w = .ok (decide (a = b)) w := fun n => by
      rw [show n + 2 = (n + 1) + 1 from rfl]
      simp [Op.equalIn, tUnd ht, tUnd hT, tInfo hi, tSize hj, hs, hsame, hc, Result.andThen]
    exact e2 9998
  have hq : ∀ (op : BinOp) (x y : Operand) w, (eqGuard op t x y (.iface T (.pointer (some a))) (.iface T (.pointer (some b)))).run P w = .ok () w := fun op x y w => by
    cases op <;> simp [eqGuard]
  rcases nilEq_ok h with ⟨rfl, h⟩ | ⟨rfl, h⟩
  · refine ⟨_, h, fun E d ty pos af g xo yo u A w hh hx hy _ => ?_⟩
    have hx' : E xo = .iface T (.pointer (some a)) := hx
    have hy' : E yo = .iface T (.pointer (some b)) := hy
    simp only [execOp, hx', hy', Sem.run_bind, hq, Result.andThen, binOp, key A w hh, Sem.run_pure]
    rfl
  · refine ⟨_, h, fun E d ty pos af g xo yo u A w hh hx hy _ => ?_⟩
    have hx' : E xo = .iface T (.pointer (some a)) := hx
    have hy' : E yo = .iface T (.pointer (some b)) := hy
    simp only [execOp, hx', hy', Sem.run_bind, hq, Result.andThen, binOp, key A w hh, Sem.run_pure]
    rfl
end Go.Proofs.YtikjigkkhdkibaaGreatDoor.W

/- A statement whose order Go leaves open, where now and then two may come first. Over any program. -/
namespace Go.Proofs.YtikjigkkhdkibaaGreatDoor.W
open Go.RowKit
def okPre (fin : Array Bool → Bool) (ops : Array Oper) (ld wd : Nat → Bool) : List Pk → Array Bool → Bool
  | [], listed => fin listed
  | .t n :: r, listed => mayTake ops listed n && ((List.range ops.size).all fun j => !(ld j || wd j) || cmpB .any ops j n) && okPre fin ops ld wd r (listed.setIfInBounds n true)
  | .m n :: r, listed => mayTake ops listed n && ((List.range ops.size).all fun j => !(wd j) || cmpB .any ops j n) && okPre fin ops ld wd r (listed.setIfInBounds n true)
  | .s n :: r, listed => Region.ready .any ops listed == [n] && okPre fin ops ld wd r (listed.setIfInBounds n true)
  | .w n :: r, listed => Region.ready .any ops listed == [n] && ld n && okPre fin ops ld wd r (listed.setIfInBounds n true)
  | .l n :: r, listed => Region.ready .any ops listed == [n] && ld n && wd n && okPre fin ops ld wd r (listed.setIfInBounds n true)
/-- an order, and where two that are quiet may come first both orders -/
inductive Pt where
  | nil
  | many (l : List Pk) (r : Pt)
  | two (n : Nat) (r : Pt) (m : Nat) (r' : Pt)
def Pt.len : Pt → Nat
  | .nil => 0
  | .many l r => l.length + r.len
  | .two _ r _ r' => max r.len r'.len + 1
def Pt.all (f : Pk → Bool) : Pt → Bool
  | .nil => true
  | .many l r => l.all f && r.all f
  | .two _ r _ r' => r.all f && r'.all f
def Pt.isLd (j : Nat) : Pt → Bool
  | .nil => false
  | .many l r => Go.Proofs.YtikjigkkhdkibaaGreatDoor.W.isLd l j || r.isLd j
  | .two _ r _ r' => r.isLd j || r'.isLd j
def Pt.isWd (j : Nat) : Pt → Bool
  | .nil => false
  | .many l r => Go.Proofs.YtikjigkkhdkibaaGreatDoor.W.isWd l j || r.isWd j
  | .two _ r _ r' => r.isWd j || r'.isWd j
def okT (ops : Array Oper) (ld wd : Nat → Bool) : Pt → Array Bool → Bool
  | .nil, listed => (Region.ready .any ops listed).isEmpty
  | .many l r, listed => okPre (fun listed => okT ops ld wd r listed) ops ld wd l listed
  | .two n r m r', listed => ((Region.ready .any ops listed).all fun k => k == n || k == m) && (Region.ready .any ops listed).contains n && (Region.ready .any ops listed).contains m && okT ops ld wd r (listed.setIfInBounds n true) && okT ops ld wd r' (listed.setIfInBounds m true)
structure Two (a b : Prop) : Prop where
  h : a
  h' : b
noncomputable def stepS (P : Program) (nt : Nat) (ops : List Oper) (n : Nat) (env : Env) (lb : LBs) (Φ : Facts) (K : Env → LBs → Facts → Prop) : Prop :=
  match nth ops n with
  | some o => gd ops env o.guard (wpO P (some []) o.op o.type env lb Φ fun v lb Φ => putE nt env o.dst v fun env => K env lb Φ) (putE nt env o.dst .undef fun env => K env lb Φ)
  | none => False
noncomputable def wpT (P : Program) (nt : Nat) (ops : List Oper) (mk : List Nat) (ks : List (Nat × Nat)) (l : Pt) : Env → LBs → Facts → (Env → LBs → Facts → Prop) → Prop :=
  Pt.rec (motive := fun _ => Env → LBs → Facts → (Env → LBs → Facts → Prop) → Prop) (fun env lb Φ K => K env lb Φ)
    (fun l _ ih env lb Φ K => wpD P nt ops mk ks l env lb Φ fun env lb Φ => ih env lb Φ K)
    (fun n _ m _ ih ih' env lb Φ K => Two (stepS P nt ops n env lb Φ fun env lb Φ => ih env lb Φ K) (stepS P nt ops m env lb Φ fun env lb Φ => ih' env lb Φ K)) l
section
variable {P : Program} {ro : Option Nat} {nt : Nat} {ω : Amb} {ds : List Deferred}
theorem wpD_pre {lo : List Oper} {mk : List Nat} {ks : List (Nat × Nat)} {ld wd : Nat → Bool} {K : Env → LBs → Facts → Prop} {K' : Act → World → Prop} {fin : Array Bool → Bool} {m0 : Nat} (hlt : ∀ j, (ld j || wd j) = true → j < lo.toArray.size)
    (hK : ∀ (listed : Array Bool) (env : Env) (lb : LBs) (Φ : Facts) (a : Act) (w wS : World) (fuel : Nat) (Mu : Foot), m0 ≤ fuel → fin listed = true → Closed .any lo.toArray listed → RA nt env ds a → Rel P lb Φ (ω.mu Mu) w → Rel P lb Φ (ω.mu Mu) wS → Kept No wS w →
      K env lb Φ → Any P ro .any lo.toArray ld wd K' fuel (Kept No wS) (Kept (MsOf ks) wS) listed a w) :
    ∀ (r : List Pk) (listed : Array Bool) (env : Env) (lb : LBs) (Φ : Facts) (a : Act) (w wS : World) (fuel : Nat) (Mu : Foot), r.length + m0 ≤ fuel → okPre fin lo.toArray ld wd r listed = true → Closed .any lo.toArray listed → RA nt env ds a → Rel P lb Φ (ω.mu Mu) w → Rel P lb Φ (ω.mu Mu) wS → Kept No wS w →
      wpD P nt lo mk ks r env lb Φ K → Any P ro .any lo.toArray ld wd K' fuel (Kept No wS) (Kept (MsOf ks) wS) listed a w := by
  intro r
  induction r with
  | nil =>
    intro listed env lb Φ a w wS fuel Mu hf hok hcl hra hr hrS hk h
    exact hK listed env lb Φ a w wS fuel Mu (by simpa using hf) hok hcl hra hr hrS hk h
  | cons n r ih =>
    intro listed env lb Φ a w wS fuel Mu hf hok hcl hra hr hrS hk h
    obtain ⟨fuel, rfl⟩ : ∃ m, fuel = m + 1 := ⟨fuel - 1, by simp only [List.length_cons] at hf; omega⟩
    have hf' : r.length + m0 ≤ fuel := by simp only [List.length_cons] at hf; omega
    have ofNo : ∀ {w w' : World}, Kept No w w' → Kept (MsOf ks) w w' := fun h => h.weaken fun _ _ h => h.elim
    -- an operation that comes up alone
    have alone : ∀ (m : Nat) (o : Oper), lo.toArray[m]? = some o → Region.ready .any lo.toArray listed = [m] → okPre fin lo.toArray ld wd r (listed.setIfInBounds m true) = true →
        (Ops P ro lo.toArray [o] a w fun a' w' => ∃ env' lb' Φ' Mu', RA nt env' ds a' ∧ Rel P lb' Φ' (ω.mu Mu') w' ∧ wpD P nt lo mk ks r env' lb' Φ' K ∧ (ld m = false → Kept No w w') ∧ (wd m = false → Kept (MsOf ks) w w')) →
        Any P ro .any lo.toArray ld wd K' (fuel + 1) (Kept No wS) (Kept (MsOf ks) wS) listed a w := by
      intro m o ho' hm hok hops
      refine ⟨fun h0 => (by rw [hm] at h0; cases h0), fun j hj => ?_⟩
      have hj0 := hj
      rw [hm] at hj
      simp only [List.mem_singleton] at hj
      subst hj
      unfold opStep
      simp only [ho']
      refine Ops.mono1 ?_ hops
      rintro a' w' ⟨env', lb', Φ', Mu', g1, g2, g3, g4, g5⟩
      refine ⟨Kept No w', Kept (MsOf ks) w', fun hl => ⟨hk.trans (g4 hl), fun w2 h2 => (hk.trans (g4 hl)).trans h2⟩, fun hl => ⟨(ofNo hk).trans (g5 hl), fun w2 h2 => ((ofNo hk).trans (g5 hl)).trans h2⟩, Kept.refl _ _, Kept.refl _ _, ih _ _ _ _ _ _ _ _ Mu' hf' hok (hcl.set hj0) g1 g2 g2 (Kept.refl _ _) g3⟩
    cases n with
    | t n =>
      simp only [okPre, Bool.and_eq_true] at hok
      change (match nth lo n with | some o => _ | none => False) at h
      obtain ⟨⟨hm, hcm⟩, hok⟩ := hok
      simp only [mayTake, Bool.and_eq_true] at hm
      split at h
      · rename_i o ho
        rw [nth_eq] at ho
        have ho' : lo.toArray[n]? = some o := by simpa using ho
        have hcmp : ∀ j, pickB false (wd j) (ld j || wd j) = true → cmpB .any lo.toArray j n = true := fun j hj => all_cmp hcm (hlt j hj) hj
        rcases wanted_ok hra h with ⟨hw, h1⟩ | ⟨hw, h1⟩
        · obtain ⟨v, fs, hq, hy⟩ := pv_ok (d := o.dst) (ty := o.type) (pos := o.pos) (af := o.after) (g := o.guard) hra.ev hr h1
          rw [appK_eq] at hq
          obtain ⟨env', hra', hq⟩ := hra.put hq
          refine any_first false hcmp ho' (noDefer_sel hm.1.1) (noDefer_spec hm.1.1) fuel _ _ listed _ w (Region.free_spec ho' hm.1.2) hcl (by simpa using hm.2) (v := v.den) ?_ hk (ofNo hk) ?_
          · exact Yv.of_any (fun c => noDefer_spec hm.1.1 n o c ho') hw fun w' hw' => (hy w' (hrS.call hw')).1
          · exact ih _ _ _ _ _ _ _ _ _ hf' hok (hcl.set (by simpa using hm.2)) hra' ⟨hr.st, ((hy w hr).2 _ hr.hold).append hr.hold, hr.mu, hr.muM, hr.amb⟩ ⟨hrS.st, ((hy wS hrS).2 _ hrS.hold).append hrS.hold, hrS.mu, hrS.muM, hrS.amb⟩ hk hq
        · obtain ⟨env', hra', hq⟩ := hra.put h1
          refine any_first false hcmp ho' (noDefer_sel hm.1.1) (noDefer_spec hm.1.1) fuel _ _ listed _ w (Region.free_spec ho' hm.1.2) hcl (by simpa using hm.2) (v := Go.undef) ?_ hk (ofNo hk) ?_
          · exact ⟨fun c => noDefer_spec hm.1.1 n o c ho', .inr ⟨hw, rfl⟩⟩
          · exact ih _ _ _ _ _ _ _ _ _ hf' hok (hcl.set (by simpa using hm.2)) hra' hr hrS hk hq
      · exact h.elim
    | m n =>
      simp only [okPre, Bool.and_eq_true] at hok
      change (match nth lo n with | some o => Ob _ _ | none => False) at h
      obtain ⟨⟨hm, hcm⟩, hok⟩ := hok
      simp only [mayTake, Bool.and_eq_true] at hm
      split at h
      · rename_i o ho
        rw [nth_eq] at ho
        have ho' : lo.toArray[n]? = some o := by simpa using ho
        have hcmp : ∀ j, pickB true (wd j) (ld j || wd j) = true → cmpB .any lo.toArray j n = true := fun j hj => all_cmp hcm (hlt j (by simp only [pickB] at hj; simp [hj])) hj
        obtain ⟨hks, h⟩ := h
        rcases wanted_ok hra h with ⟨hw, h1⟩ | ⟨hw, h1⟩
        · obtain ⟨lbm, h1, hmask⟩ := maskK_ok h1
          have mko : ∀ {w' : World}, Kept (MsOf ks) wS w' → Rel P lbm Φ (ω.mu Mu) w' := fun h => hrS.mask (h.weaken fun b _ hb => keys_iff.1 (hks ▸ hb)) hmask
          obtain ⟨v, fs, hq, hy⟩ := pv_ok (d := o.dst) (ty := o.type) (pos := o.pos) (af := o.after) (g := o.guard) hra.ev (mko (ofNo hk)) h1
          rw [appK_eq] at hq
          obtain ⟨env', hra', hq⟩ := hra.put hq
          refine any_first true hcmp ho' (noDefer_sel hm.1.1) (noDefer_spec hm.1.1) fuel _ _ listed _ w (Region.free_spec ho' hm.1.2) hcl (by simpa using hm.2) (v := v.den) ?_ hk (ofNo hk) ?_
          · exact Yv.of_any (fun c => noDefer_spec hm.1.1 n o c ho') hw fun w' hw' => (hy w' (mko hw')).1
          · exact ih _ _ _ _ _ _ _ _ _ hf' hok (hcl.set (by simpa using hm.2)) hra' ⟨hr.st, ((hy w (mko (ofNo hk))).2 _ hr.hold).append hr.hold, hr.mu, hr.muM, hr.amb⟩ ⟨hrS.st, ((hy wS (mko (Kept.refl _ _))).2 _ hrS.hold).append hrS.hold, hrS.mu, hrS.muM, hrS.amb⟩ hk hq
        · obtain ⟨env', hra', hq⟩ := hra.put h1
          refine any_first true hcmp ho' (noDefer_sel hm.1.1) (noDefer_spec hm.1.1) fuel _ _ listed _ w (Region.free_spec ho' hm.1.2) hcl (by simpa using hm.2) (v := Go.undef) ?_ hk (ofNo hk) ?_
          · exact ⟨fun c => noDefer_spec hm.1.1 n o c ho', .inr ⟨hw, rfl⟩⟩
          · exact ih _ _ _ _ _ _ _ _ _ hf' hok (hcl.set (by simpa using hm.2)) hra' hr hrS hk hq
      · exact h.elim
    | s m =>
      simp only [okPre, Bool.and_eq_true] at hok
      change (match nth lo m with | some o => _ | none => False) at h
      obtain ⟨hm, hok⟩ := hok
      have hm : Region.ready .any lo.toArray listed = [m] := by simpa using hm
      split at h
      · rename_i o ho
        rw [nth_eq] at ho
        have ho' : lo.toArray[m]? = some o := by simpa using ho
        refine alone m o ho' hm hok ?_
        rcases wanted_ok hra h with ⟨hw, h1⟩ | ⟨hw, h1⟩
        · refine wpO_ok hra hr hw h1 fun v lb' Φ' w' Mu' hq hr' hk' => ?_
          obtain ⟨env', hra', hq⟩ := hra.put hq
          have hk0 : Kept No w w' := Kept.weaken hk' fun b _ hb => by obtain ⟨i, hi, _⟩ := hb; simp at hi
          exact ⟨_, _, _, Mu', hra', hr', hq, fun _ => hk0, fun _ => ofNo hk0⟩
        · refine o_skip hw ?_
          obtain ⟨env', hra', hq⟩ := hra.put h1
          exact ⟨_, _, _, Mu, hra', hr, hq, fun _ => Kept.refl _ _, fun _ => Kept.refl _ _⟩
      · exact h.elim
    | w m =>
      simp only [okPre, Bool.and_eq_true] at hok
      change (match nth lo m with | some o => Ob _ _ | none => False) at h
      obtain ⟨⟨hm, hld⟩, hok⟩ := hok
      have hm : Region.ready .any lo.toArray listed = [m] := by simpa using hm
      split at h
      · rename_i o ho
        rw [nth_eq] at ho
        have ho' : lo.toArray[m]? = some o := by simpa using ho
        obtain ⟨hks, h⟩ := h
        refine alone m o ho' hm hok ?_
        rcases wanted_ok hra h with ⟨hw, h1⟩ | ⟨hw, h1⟩
        · refine wpO_ok hra hr hw h1 fun v lb' Φ' w' Mu' hq hr' hk' => ?_
          obtain ⟨env', hra', hq⟩ := hra.put hq
          exact ⟨_, _, _, Mu', hra', hr', hq, fun e => (by rw [hld] at e; cases e), fun _ => Kept.weaken hk' fun b _ hb => hks ▸ keys_iff.2 hb⟩
        · refine o_skip hw ?_
          obtain ⟨env', hra', hq⟩ := hra.put h1
          exact ⟨_, _, _, Mu, hra', hr, hq, fun _ => Kept.refl _ _, fun _ => Kept.refl _ _⟩
      · exact h.elim
    | l m =>
      simp only [okPre, Bool.and_eq_true] at hok
      change (match nth lo m with | some o => _ | none => False) at h
      obtain ⟨⟨⟨hm, hld⟩, hwd⟩, hok⟩ := hok
      have hm : Region.ready .any lo.toArray listed = [m] := by simpa using hm
      split at h
      · rename_i o ho
        rw [nth_eq] at ho
        have ho' : lo.toArray[m]? = some o := by simpa using ho
        refine alone m o ho' hm hok ?_
        rcases wanted_ok hra h with ⟨hw, h1⟩ | ⟨hw, h1⟩
        · refine wpO_ok hra hr hw h1 fun v lb' Φ' w' Mu' hq hr' _ => ?_
          obtain ⟨env', hra', hq⟩ := hra.put hq
          exact ⟨_, _, _, Mu', hra', hr', hq, fun e => (by rw [hld] at e; cases e), fun e => (by rw [hwd] at e; cases e)⟩
        · refine o_skip hw ?_
          obtain ⟨env', hra', hq⟩ := hra.put h1
          exact ⟨_, _, _, Mu, hra', hr, hq, fun _ => Kept.refl _ _, fun _ => Kept.refl _ _⟩
      · exact h.elim

theorem wpT_ok {lo : List Oper} {mk : List Nat} {ks : List (Nat × Nat)} {ld wd : Nat → Bool} {K' : Act → World → Prop} (hlt : ∀ j, (ld j || wd j) = true → j < lo.toArray.size) :
    ∀ (r : Pt) {K : Env → LBs → Facts → Prop}, (∀ env lb Φ Mu a w, RA nt env ds a → Rel P lb Φ (ω.mu Mu) w → K env lb Φ → K' a w) → ∀ (listed : Array Bool) (env : Env) (lb : LBs) (Φ : Facts) (a : Act) (w wS : World) (fuel : Nat) (Mu : Foot), r.len ≤ fuel → okT lo.toArray ld wd r listed = true → Closed .any lo.toArray listed → RA nt env ds a → Rel P lb Φ (ω.mu Mu) w → Rel P lb Φ (ω.mu Mu) wS → Kept No wS w →
      wpT P nt lo mk ks r env lb Φ K → Any P ro .any lo.toArray ld wd K' fuel (Kept No wS) (Kept (MsOf ks) wS) listed a w := by
  intro r
  induction r with
  | nil =>
    intro K hK listed env lb Φ a w wS fuel Mu _ hok _ hra hr hrS hk h
    have hn := ready_nil hok
    cases fuel with
    | zero => exact ⟨hn, hK _ _ _ Mu _ _ hra hr h⟩
    | succ n => exact ⟨fun _ => hK _ _ _ Mu _ _ hra hr h, by rw [hn]; simp⟩
  | many l r ih =>
    intro K hK listed env lb Φ a w wS fuel Mu hf hok hcl hra hr hrS hk h
    exact wpD_pre hlt (fun listed env lb Φ a w wS fuel Mu g1 g2 g3 g4 g5 g6 g7 g8 => ih hK listed env lb Φ a w wS fuel Mu g1 g2 g3 g4 g5 g6 g7 g8) l listed env lb Φ a w wS fuel Mu hf hok hcl hra hr hrS hk h
  | two n r m r' ih ih' =>
    intro K hK listed env lb Φ a w wS fuel Mu hf hok hcl hra hr hrS hk h
    obtain ⟨fuel, rfl⟩ : ∃ m, fuel = m + 1 := ⟨fuel - 1, by simp only [Pt.len] at hf; omega⟩
    simp only [Pt.len] at hf
    have ofNo : ∀ {w w' : World}, Kept No w w' → Kept (MsOf ks) w w' := fun h => h.weaken fun _ _ h => h.elim
    simp only [okT, Bool.and_eq_true] at hok
    obtain ⟨⟨⟨⟨hal, hn⟩, hm⟩, ok1⟩, ok2⟩ := hok
    have one : ∀ (n : Nat) (r : Pt), r.len ≤ fuel → n ∈ Region.ready .any lo.toArray listed → okT lo.toArray ld wd r (listed.setIfInBounds n true) = true →
        (∀ (listed : Array Bool) (env : Env) (lb : LBs) (Φ : Facts) (a : Act) (w wS : World) (fuel : Nat) (Mu : Foot), r.len ≤ fuel → okT lo.toArray ld wd r listed = true → Closed .any lo.toArray listed → RA nt env ds a → Rel P lb Φ (ω.mu Mu) w → Rel P lb Φ (ω.mu Mu) wS → Kept No wS w →
          wpT P nt lo mk ks r env lb Φ K → Any P ro .any lo.toArray ld wd K' fuel (Kept No wS) (Kept (MsOf ks) wS) listed a w) →
        stepS P nt lo n env lb Φ (fun env lb Φ => wpT P nt lo mk ks r env lb Φ K) →
        opStep P ro lo.toArray n (fun a' w' => ∃ S' T' : World → Prop, (ld n = false → Kept No wS w' ∧ ∀ w, S' w → Kept No wS w) ∧ (wd n = false → Kept (MsOf ks) wS w' ∧ ∀ w, T' w → Kept (MsOf ks) wS w) ∧ S' w' ∧ T' w' ∧ Any P ro .any lo.toArray ld wd K' fuel S' T' (listed.setIfInBounds n true) a' w') a w := by
      intro n r hf hn ok ih h
      unfold stepS at h
      unfold opStep
      split at h
      · rename_i o ho
        rw [nth_eq] at ho
        have ho' : lo.toArray[n]? = some o := by simpa using ho
        simp only [ho']
        have fin : ∀ {a' : Act} {w' : World} {env' : Env} {lb' : LBs} {Φ' : Facts} {Mu' : Foot}, RA nt env' ds a' → Rel P lb' Φ' (ω.mu Mu') w' → wpT P nt lo mk ks r env' lb' Φ' K → Kept No w w' →
            ∃ S' T' : World → Prop, (ld n = false → Kept No wS w' ∧ ∀ w, S' w → Kept No wS w) ∧ (wd n = false → Kept (MsOf ks) wS w' ∧ ∀ w, T' w → Kept (MsOf ks) wS w) ∧ S' w' ∧ T' w' ∧ Any P ro .any lo.toArray ld wd K' fuel S' T' (listed.setIfInBounds n true) a' w' := by
          intro a' w' env' lb' Φ' Mu' g1 g2 g3 g4
          have g5 := hk.trans g4
          exact ⟨Kept No w', Kept (MsOf ks) w', fun _ => ⟨g5, fun _ h2 => g5.trans h2⟩, fun _ => ⟨ofNo g5, fun _ h2 => (ofNo g5).trans h2⟩, Kept.refl _ _, Kept.refl _ _, ih _ _ _ _ _ _ _ _ Mu' hf ok (hcl.set hn) g1 g2 g2 (Kept.refl _ _) g3⟩
        rcases wanted_ok hra h with ⟨hw, h1⟩ | ⟨hw, h1⟩
        · refine wpO_ok hra hr hw h1 fun v lb' Φ' w' Mu' hq hr' hk' => ?_
          obtain ⟨env', hra', hq⟩ := hra.put hq
          exact fin hra' hr' hq (Kept.weaken hk' fun b _ hb => by obtain ⟨i, hi, _⟩ := hb; simp at hi)
        · refine o_skip hw ?_
          obtain ⟨env', hra', hq⟩ := hra.put h1
          exact fin hra' hr hq (Kept.refl _ _)
      · exact h.elim
    refine ⟨fun h0 => ?_, fun j hj => ?_⟩
    · rw [h0] at hn; simp at hn
    · have h1 := List.all_eq_true.1 hal j hj
      simp only [Bool.or_eq_true, beq_iff_eq] at h1
      rcases h1 with rfl | rfl
      · exact one _ r (by omega) hj ok1 (ih hK) h.h
      · exact one _ r' (by omega) hj ok2 (ih' hK) h.h'
theorem Pt.isLd_lt {ops : Array Oper} : ∀ {r : Pt}, (r.all fun p => match p with | .w n => decide (n < ops.size) | .l n => decide (n < ops.size) | _ => true) = true → ∀ {j : Nat}, (r.isLd j || r.isWd j) = true → j < ops.size
  | .nil, _, j, hj => by simp [Pt.isLd, Pt.isWd] at hj
  | .many l r, h, j, hj => by
    simp only [Pt.all, Bool.and_eq_true] at h
    simp only [Pt.isLd, Pt.isWd, Bool.or_eq_true] at hj
    rcases hj with (hj | hj) | (hj | hj)
    · exact Go.Proofs.YtikjigkkhdkibaaGreatDoor.W.isLd_lt h.1 (by simp [hj])
    · exact Pt.isLd_lt h.2 (by simp [hj])
    · exact Go.Proofs.YtikjigkkhdkibaaGreatDoor.W.isLd_lt h.1 (by simp [hj])
    · exact Pt.isLd_lt h.2 (by simp [hj])
  | .two n r m r', h, j, hj => by
    simp only [Pt.all, Bool.and_eq_true] at h
    simp only [Pt.isLd, Pt.isWd, Bool.or_eq_true] at hj
    rcases hj with (hj | hj) | (hj | hj)
    · exact Pt.isLd_lt h.1 (by simp [hj])
    · exact Pt.isLd_lt h.2 (by simp [hj])
    · exact Pt.isLd_lt h.1 (by simp [hj])
    · exact Pt.isLd_lt h.2 (by simp [hj])
def okAllT (ops : Array Oper) (r : Pt) : Bool :=
  Nat.ble r.len ops.size && (r.all fun p => match p with | .w n => decide (n < ops.size) | .l n => decide (n < ops.size) | _ => true) && okT ops (fun j => r.isLd j) (fun j => r.isWd j) r (Array.replicate ops.size false)
theorem SemC.drawT {ops : Array Oper} {env : Env} {lb : LBs} {Φ : Facts} {Q : QT} (id : Nat) (mk : List Nat) (r : Pt) (hm : P.follows .mixedOrders = true) (hok : okAllT ops r = true)
    (h : arrK ops fun l => wpT P nt l mk (keysOf lb mk) r env lb Φ fun env lb Φ => Q .normal env ds lb Φ) : SemC P nt ro (.region id ops true) env ds lb Φ Q := by
  simp only [okAllT, Bool.and_eq_true] at hok
  refine ⟨fun ω a w hra hr => ?_⟩
  have h1 := wpT_ok (P := P) (ro := ro) (ω := ω) (ld := fun j => r.isLd j) (wd := fun j => r.isWd j) (lo := ops.toList) (K' := QQ P nt ω Q .normal) (fun j hj => by simpa using Pt.isLd_lt hok.1.2 hj) r (fun env lb Φ Mu a w k1 k2 k3 => ⟨env, ds, lb, Φ, Mu, k1, k2, k3⟩) (Array.replicate ops.size false) env lb Φ a { w with drawn := w.drawn + 1 } { w with drawn := w.drawn + 1 } ops.size ω.Mu
    (Nat.le_of_ble_eq_true hok.1.1) (by simpa using hok.2) (by simpa using Closed.start .any ops ops.size) hra hr.drawn hr.drawn (Kept.refl _ _) h
  exact wpIn_region_any hm (any_sound (K := QQ P nt ω Q .normal) (fun _ _ h => h) _ _ _ _ _ _ (by simpa using h1))
end
end Go.Proofs.YtikjigkkhdkibaaGreatDoor.W

/- A slice held against nil. Over any program. -/
namespace Go.Proofs.YtikjigkkhdkibaaGreatDoor.W
open Go.RowKit
theorem BinS.slNil {P : Program} {Φ : Facts} {cc : Bool} {op : BinOp} {t e : TypeId} {p : Option Addr} {n c n' c' : Nat} {q : SV → Prop} (ht : P.underlying t = some (.slice e)) (h : nilEq op p.isNone q) :
    BinS P Φ cc op t (.raw (.slice p n c)) (.raw (.slice none n' c')) q := by
  have key : ∀ w, (Op.equal t (.slice p n c) (.slice none n' c')).run P w = .ok p.isNone w := fun w => by
    simp [Op.equal, Op.maxDepth, Go.Lib.run_equalIn_slice_nil w 9999 t e p n c n' c' ht]
  have hq : ∀ (op : BinOp) (x y : Operand) w, (eqGuard op t x y (.slice p n c) (.slice none n' c')).run P w = .ok () w := fun op x y w => by
    cases op <;> simp [eqGuard]
  rcases nilEq_ok h with ⟨rfl, h⟩ | ⟨rfl, h⟩
  · refine ⟨_, h, fun E d ty pos af g xo yo u A w hh hx hy _ => ?_⟩
    have hx' : E xo = .slice p n c := hx
    have hy' : E yo = .slice none n' c' := hy
    simp only [execOp, hx', hy', Sem.run_bind, hq, Result.andThen, binOp, key w, Sem.run_pure]
    rfl
  · refine ⟨_, h, fun E d ty pos af g xo yo u A w hh hx hy _ => ?_⟩
    have hx' : E xo = .slice p n c := hx
    have hy' : E yo = .slice none n' c' := hy
    simp only [execOp, hx', hy', Sem.run_bind, hq, Result.andThen, binOp, key w, Sem.run_pure]
    rfl
/-- a literal of no elements -/
theorem SemO.lit0 {P : Program} {kp : Option (List Nat)} {env : Env} {lb : LBs} {Φ : Facts} {ty : TypeId} {q : SV → LBs → Facts → Prop} {α : Type} (enc : α → List SV) {t : TypeId} (h : appTy P t t fun _ k _ => ∀ p, q (.raw (.slice p 0 0)) lb (slF enc k p 0 0 [] :: Φ)) :
    SemO P kp (.buildSlice t 0 #[]) ty env lb Φ q := by
  refine ⟨fun E d pos af g ω w he hr => ?_⟩
  obtain ⟨e, f, inf, z, h1, h2, h3, h4, h5, hh⟩ := appTy_ok h
  clear h
  have hrun : (Instr.buildSlice t 0 ((#[] : Array (Nat × Operand)).map fun (i, x) => (i, E x))).run P w = .ok (.slice (some ⟨w.heap.size, 0, none⟩) 0 0) (w.alloc (.cells (flat enc []).toArray e)) := by
    unfold Instr.buildSlice
    simp only [Sem.run_bind, tUnd h1, Result.andThen, tSize h3]
    rw [if_neg (by omega)]
    simp [Instr.fill, newRow, Result.andThen, flat]
    have e0 : Array.map (fun (_ : Nat) => (default : Value)) (Array.range 0) = #[] := by simp [Array.range]
    exact congrArg (fun c => w.alloc (Obj.cells c e)) e0
  have hrel : Rel P (lb ++ [(w.heap.size, .vec enc inf.size e (some ⟨w.heap.size, 0, none⟩) 0 0 ([] : List α))]) Φ ω (w.alloc (.cells (flat enc ([] : List α)).toArray e)) := by
    refine hr.alloc (b := .vec enc inf.size e (some ⟨w.heap.size, 0, none⟩) 0 0 []) (fun _ _ _ h => by cases h) rfl ⟨_, _, rfl, Thaw.zero _, by simp [flat], by simp [flat]⟩ ⟨rfl, Nat.le_refl _, by omega, (fun _ h => nomatch h), fun _ => rfl, fun h => by cases h⟩
  have hi : nth (lb ++ [(w.heap.size, .vec enc inf.size e (some ⟨w.heap.size, 0, none⟩) 0 0 ([] : List α))]) lb.length = some (w.heap.size, .vec enc inf.size e (some ⟨w.heap.size, 0, none⟩) 0 0 []) := by rw [nth_eq]; simp
  have h6 := Imp.pubVec (Φ := Φ) lb.length hi ω _ hrel
  have h7 := Imp.take (Φ := slF enc inf.size (some ⟨w.heap.size, 0, none⟩) 0 0 ([] : List α) :: Φ) lb.length ω _ h6
  have h8 : ((lb ++ [(w.heap.size, OB.vec enc inf.size e (some ⟨w.heap.size, 0, none⟩) 0 0 ([] : List α))]).set lb.length (w.heap.size, .hole)).take lb.length = lb := by
    rw [List.take_set_of_le (Nat.le_refl _)]; simp
  rw [h8] at h7
  exact ⟨_, _, _, _, _, hh (some ⟨w.heap.size, 0, none⟩), by simp only [execOp, hrun, Sem.run_bind, Result.andThen]; exact rfl, .inl rfl, h7, .of (Kept.alloc _ _ _)⟩
end Go.Proofs.YtikjigkkhdkibaaGreatDoor.W

/- A range over a string. Over any program. -/
namespace Go.Proofs.YtikjigkkhdkibaaGreatDoor.W
open Go.RowKit
variable {P : Program} {kp : Kp} {env : Env} {lb : LBs} {Φ : Facts} {ty : TypeId} {q : SV → LBs → Facts → Prop} {ω : Amb} {w : World}
/-- the object that a block of one's own is -/
theorem Rel.strAt (h : Rel P lb Φ ω w) {i b : Nat} {o : Obj} (hi : nth lb i = some (b, .obj o)) : w.heap[b]? = some o := by
  obtain ⟨_, h2⟩ := h.st.own i _ (sem_get hi)
  obtain ⟨_, o', h3, h4⟩ := h2 trivial
  rw [← (h4 : o' = o)]; exact h3
theorem SemO.rangeStr {T : TypeId} {x : Operand} (h : evS env x fun v => match v with
      | .str s => match P.underlying T with
        | some .string => ∀ b, appK lb [(b, .obj (.stringIter ⟨s.toArray⟩ 0))] fun lb' => lenK lb 0 fun i => q (.own i b 0) lb' Φ
        | _ => False
      | _ => False) : SemO P kp (.range T x) ty env lb Φ q := by
  refine ⟨fun E d pos af g ω w he hr => ?_⟩
  obtain ⟨v, hv, h⟩ := evS_ok he h
  split at h
  · rename_i s
    split at h
    · rename_i hT
      have hq := h w.heap.size
      rw [appK_eq, lenK_eq, Nat.zero_add] at hq
      have hv' : E x = .string ⟨s.toArray⟩ := hv
      refine ⟨_, _, _, .value (.pointer (some ⟨w.heap.size, 0, none⟩)), w.alloc (.stringIter ⟨s.toArray⟩ 0), hq, ?_, .inl rfl, ?_, .of (Kept.alloc _ _ _)⟩
      · simp only [execOp, hv', Instr.range, newObj, Sem.run_bind, tUnd hT, Result.andThen, Sem.run_pure, Sem.run]
        rfl
      · exact hr.alloc (b := .obj (.stringIter ⟨s.toArray⟩ 0)) (fun _ _ _ h => by cases h) rfl rfl trivial
    · exact h.elim
  · exact h.elim
theorem SemO.nextStr {x : Operand} (h : evS env x fun v => match v with
      | .own i b o => match nth lb i with
        | some (b', .obj (.stringIter s pos)) => Ob (b' = b ∧ o = 0 ∧ okKp kp i = true) (BR (decide (pos < s.size)) (setK lb i (b', .obj (.stringIter s (pos + (Utf8.decode s pos).2))) fun lb => q (.tup [.bool true, .int .i64 pos, .int .i32 (Utf8.decode s pos).1]) lb Φ) (q (.tup [.bool false]) lb Φ))
        | _ => False
      | _ => False) : SemO P kp (.next x true) ty env lb Φ q := by
  refine ⟨fun E d pos af g ω w he hr => ?_⟩
  obtain ⟨v, hv, h⟩ := evS_ok he h
  split at h
  · rename_i i b o
    split at h
    · rename_i b' s p hi
      obtain ⟨⟨rfl, rfl, hokp⟩, hq⟩ := h
      have ho := hr.strAt hi
      have hv' : E x = .pointer (some ⟨b', 0, none⟩) := hv
      by_cases hlt : p < s.size
      · have hq := hq.1 (decide_eq_true hlt)
        rw [setK_eq] at hq
        refine ⟨_, _, _, .value (.tuple #[.bool true, .int .i64 p, .int .i32 (Utf8.decode s p).1]), w.putObj b' (.stringIter s (p + (Utf8.decode s p).2)), hq, ?_, .inl rfl, hr.turn hi (fun _ _ _ h => by cases h) trivial (kept_putObj w b' _) rfl ⟨_, World.putObj_heap_same (lt_of_some ho), rfl⟩ trivial, .at hokp hi trivial (kept_putObj w b' _)⟩
        have e1 : (getObj b').run P w = .ok (.stringIter s p) w := by simp [getObj, Sem.run, ho]
        have e2 : (setObj b' (.stringIter s (p + (Utf8.decode s p).2))).run P w = .ok () (w.putObj b' (.stringIter s (p + (Utf8.decode s p).2))) := run_setMap ho (fun _ _ _ h => by cases h)
        simp only [execOp, hv', Instr.next, Sem.run_bind, e1, Result.andThen, hlt, if_true, e2, Sem.run_pure, goInt]
      · have hq := hq.2 (decide_eq_false hlt)
        refine ⟨_, _, _, .value (.tuple #[.bool false]), w, hq, ?_, .inl rfl, hr, .of (Kept.refl _ _)⟩
        have e1 : (getObj b').run P w = .ok (.stringIter s p) w := by simp [getObj, Sem.run, ho]
        simp only [execOp, hv', Instr.next, Sem.run_bind, e1, Result.andThen, hlt, if_false, Sem.run_pure]
    · exact h.elim
  · exact h.elim
/-- an element that is known, read again -/
theorem RdE.k {α : Type} {enc : α → List SV} {k e : Nat} {q : List SV → Prop} {x : Sli α} {a : α} (hm : x.f enc k ∈ Φ) (h : x.l[e]? = some a) (hq : q (enc a)) : RdE Φ x.p x.l.length x.c k e q :=
  RdE.s hm (List.getElem?_eq_some_iff.1 h).1 fun y hy => by rw [h] at hy; cases hy; exact hq
/-- a rune is of one byte at least, of four at most -/
theorem decode_width (s : ByteArray) (i : Nat) : 1 ≤ (Utf8.decode s i).2 ∧ (Utf8.decode s i).2 ≤ 4 := by
  unfold Utf8.decode
  simp only
  repeat' split
  all_goals simp
end Go.Proofs.YtikjigkkhdkibaaGreatDoor.W

/- Rules: a row of one's own from a place on; clear. Over any program. -/
namespace Go.Proofs.YtikjigkkhdkibaaGreatDoor.W
open Go.RowKit
set_option linter.unusedVariables false
variable {P : Program} {nt : Nat} {ro : Option Nat} {env env' : Env} {ds : List Deferred} {lb lb' : LBs} {Φ Φ' : Facts} {ω : Amb} {A : Nat → Prop} {w : World} {E : Operand → Value}
variable {d : Option Tmp} {ty : TypeId} {pos : String} {af : Array Edge} {g : Option (Nat × Bool)} {kp : Kp} {q : SV → LBs → Facts → Prop}
theorem zeroCells_toList {zs : Array Value} (n : Nat) : (Builtin.zeroCells zs n).toList = (List.replicate n zs.toList).flatten := by
  rw [← range_made, Builtin.zeroCells]
  simp only [Array.toList_map, Array.toList_range]
theorem SemO.sliceLow {T : TypeId} {x lo : Operand} (h : evS env x fun v => match v with
      | .vec i p n c => match nth lb i with
        | some (b', .vec enc k t p' n' c' L) => elemSize P T fun k2 => bnd env (some lo) 0 fun m => Ob (p' = p ∧ n' = n ∧ c' = c ∧ k2 = k ∧ m < n) (q (.raw (.slice (some ⟨b', m * k, none⟩) (n - m) (c - m))) lb Φ)
        | _ => False
      | _ => False) : SemO P kp (.slice T x (some lo) none none) ty env lb Φ q := by
  refine ⟨fun E d pos af g ω w he hr => ?_⟩
  obtain ⟨v, hv, hh⟩ := evS_ok he h
  clear h
  split at hh
  · rename_i i p n c
    split at hh
    · rename_i b' α enc k t p' n' c' L hl
      obtain ⟨e, inf, h1, h2, hh⟩ := elemSize_ok hh
      obtain ⟨m, hm, hh⟩ := bnd_ok he hh
      obtain ⟨⟨rfl, rfl, rfl, rfl, hlt⟩, hq⟩ := hh
      obtain ⟨kd, hm⟩ := hm
      obtain ⟨g1, g2⟩ := hr.vec hl
      have hnc : n' ≤ c' := g1.2.1
      have hp := g1.2.2.2.2.1 (by omega)
      refine ⟨_, _, _, .value _, w, hq, ?_, .inl rfl, hr, .of (Kept.refl _ _)⟩
      have hv' : E x = .slice p' n' c' := hv
      have h4 : m ≤ n' := Nat.le_of_lt hlt
      have h6 : ¬ c' = m := by omega
      simp [execOp, hv', hm, Instr.sliceAt, Instr.slice, Instr.sliceBounds, Instr.sliceBound, asIntOf, tUnd h1, tSize h2, h4, h6, hp, Addr.add, Result.andThen, SV.den]
      exact fun h => h.symm
    · exact hh.elim
  · exact hh.elim
/-- what a clear of the end of a row of one's own is to be shown -/
structure ClrV (kp : Kp) (lb : LBs) (Φ : Facts) (e : TypeId) (k2 : Nat) (zs : List Value) (p2 : Option Addr) (n2 : Nat) (q : SV → LBs → Facts → Prop) : Prop where
  h : ∃ (i b m : Nat) (α : Type) (enc : α → List SV) (k : Nat) (p : Option Addr) (n c : Nat) (L : List α) (z : α), okKp kp i = true ∧ nth lb i = some (b, .vec enc k e p n c L) ∧ k2 = k ∧ m < n ∧ p2 = some ⟨b, m * k, none⟩ ∧ n2 = n - m ∧ dens (enc z) = zs ∧ okE enc k z ∧ q (.tup []) (lb.set i (b, .vec enc k e p n c (L.take m ++ List.replicate (n - m) z))) Φ
theorem SemO.clear {x : Operand} {t : TypeId} (h : evS env x fun v => match v with
      | .raw (.slice p2 n2 _) => appTy P t t fun e k _ => match P.info? e with
        | some i => match i.zero with
          | some z => ClrV kp lb Φ e k z.cells.toList p2 n2 q
          | none => False
        | none => False
      | _ => False) : SemO P kp (.call ⟨.builtin .clear, #[x], #[t]⟩) ty env lb Φ q := by
  refine ⟨fun E d pos af g ω w he hr => ?_⟩
  obtain ⟨v, hv, hh⟩ := evS_ok he h
  clear h
  split at hh
  · rename_i p2 n2 c2
    obtain ⟨e, f, inf, z, h1, h2, h3, h4, h5, hh⟩ := appTy_ok hh
    rw [h3] at hh
    simp only [h4] at hh
    obtain ⟨i, b, m, α, enc, k, p, n, c, L, zz, hok, hl, rfl, hmn, rfl, rfl, hz, hzk, hq⟩ := hh.h
    obtain ⟨g1, g2⟩ := hr.vec hl
    have hnc : n ≤ c := g1.2.1
    have hc : c ≠ 0 := by omega
    obtain ⟨arr, fz, a1, az, a2, a3⟩ := g2 hc
    have hkz : (dens (enc zz)).length = inf.size := by rw [dens_length]; exact hzk.1
    have hzc : (Builtin.zeroCells z.cells (n - m)).toList = flat enc (List.replicate (n - m) zz) := by rw [zeroCells_toList, flat_replicate, hz]
    have hfl : (flat enc (List.replicate (n - m) zz)).length = (n - m) * inf.size := by
      rw [flat_length (k := inf.size) (fun x hx => by rw [List.eq_of_mem_replicate hx]; exact hzk.1), List.length_replicate]
    have hmk : m * inf.size + (n - m) * inf.size = n * inf.size := by rw [← Nat.add_mul]; congr 1; omega
    have hck : n * inf.size ≤ c * inf.size := Nat.mul_le_mul_right _ hnc
    have hokr : ∀ x ∈ List.replicate (n - m) zz, okE enc inf.size x := fun x hx => by rw [List.eq_of_mem_replicate hx]; exact hzk
    obtain ⟨w', k1, k2, k3⟩ := run_storeCells (P := P) (flat enc (List.replicate (n - m) zz)) (m * inf.size) 0 arr w a1 az (by rw [hfl, a2]; omega) (oneS_flat hokr)
    have hn0 : n - m ≠ 0 := by omega
    obtain ⟨d0, hd0⟩ : ∃ d0, n - m = d0 + 1 := ⟨n - m - 1, by omega⟩
    have hrun : (Builtin.clear_ #[t] ty #[.slice (some ⟨b, m * inf.size, none⟩) (n - m) c2]).run P w = .ok (.tuple #[]) w' := by
      rw [← hzc, hd0] at k1
      rw [hd0]
      simp [Builtin.clear_, tUnd h1, zeroValue, typeInfo, h3, h4, k1, Result.andThen]
    refine ⟨_, _, _, .value _, w', hq, x_builtin rfl (by simp [builtin, hv, SV.den, hrun, dens, Result.andThen]), .inl rfl, ?_, .at hok hl hc k3⟩
    refine hr.turn hl (fun _ _ _ h => by cases h) hc k3 rfl ⟨_, k2, _, _, rfl, ?_, ?_, ?_⟩ ?_
    · rw [List.size_toArray, upd_length _ _ _ (by rw [hfl, Array.length_toList, a2]; omega), Array.length_toList]; exact az
    · rw [List.size_toArray, upd_length _ _ _ (by rw [hfl, Array.length_toList, a2]; omega), Array.length_toList, a2]
    · show (upd arr.toList (m * inf.size + 0) (flat enc (List.replicate (n - m) zz))).take (n * inf.size) = flat enc (L.take m ++ List.replicate (n - m) zz)
      rw [flat_append, flat_take (fun x hx => (g1.2.2.2.1 x hx).1), ← a3]
      simp only [upd, Nat.add_zero, hfl, hmk]
      have hx : (arr.toList.take (m * inf.size) ++ flat enc (List.replicate (n - m) zz)).length = n * inf.size := by rw [List.length_append, hfl, List.length_take, Array.length_toList, a2, Nat.min_eq_left (by omega), hmk]
      rw [List.take_append_of_le_length (Nat.le_of_eq hx.symm), List.take_of_length_le (Nat.le_of_eq hx), List.take_take, Nat.min_eq_left (by omega)]
    · exact ⟨by simp [g1.1]; omega, g1.2.1, g1.2.2.1, fun x hx => by
        rcases List.mem_append.1 hx with hx | hx
        · exact g1.2.2.2.1 x (List.mem_of_mem_take hx)
        · exact hokr x hx, g1.2.2.2.2.1, g1.2.2.2.2.2⟩
  · exact hh.elim
end Go.Proofs.YtikjigkkhdkibaaGreatDoor.W

/- From what a statement knows of a call's arguments to what a contract asks, and back. Over any program. -/
namespace Go.Proofs.YtikjigkkhdkibaaGreatDoor.W
open Go.RowKit Go.ChangeShapes Go.WideShapes
section
variable {P : Program} {w : World}
/-- what lies in the world -/
def Old (w : World) : Nat → Prop := fun b => b < w.heap.size
/-- a contract, called -/
theorem Ct.run {f : FuncId} {args : List SV} {Φ : Facts} {R : SV → LBs → Facts → Prop} {A : Nat → Prop} (h : Ct P f [] args Φ R) (hh : Hold Φ A w) :
    Calls P f (dens args).toArray w fun e w' => ∃ r bs Ψ, e = .returned r.den ∧ Kept No w w' ∧ R r bs Ψ :=
  Calls.mono (h.h No A w ⟨St.start w, hh.kp fun _ _ h => ⟨⟨fun _ _ h => by simp [sem] at h, id, .inl h⟩, rfl⟩, fun _ h => h.elim False.elim False.elim, ⟨fun _ h => h.elim, fun _ h => h.elim False.elim False.elim⟩, fun _ _ _ _ h => by cases h⟩)
    fun e w' ⟨v, he, hk, r, bs, Ψ, hv, hR, _⟩ => ⟨r, bs, Ψ, by rw [he, hv], hk, hR⟩
theorem cell_block {a : Addr} {v : Value} (h : w.cell? a = some v) : a.spot = none ∧ ∃ cs t fz, w.heap[a.block]? = some (.cells cs t fz) ∧ cs[a.off]? = some v := by
  refine ⟨World.cell?_spot h, ?_⟩
  unfold World.cell? at h
  split at h
  · rename_i cs t fz hb
    split at h
    · cases h
    · exact ⟨cs, t, fz, hb, h⟩
  · cases h
/-- a slice whose cells are known -/
theorem Sl.of_cells {a : Addr} {n c k : Nat} {C : List Value} (hC : C.length = n * k) (hc : n ≤ c) (hm : c ≤ 9223372036854775807) (h : ∀ (i : Nat) v, C[i]? = some v → w.cell? (a.add i) = some v) (hk : 0 < k) : Sl (Old w) w k (some a) n c C := by
  refine ⟨hC, hc, hm, fun h => by (cases h), ?_⟩
  by_cases hn : n = 0
  · exact .inl hn
  · right
    have hpos : 0 < n * k := Nat.mul_pos (by omega) hk
    have h0 := h 0 _ (List.getElem?_eq_getElem (by omega : 0 < C.length))
    have ea : a.add 0 = a := rfl
    rw [ea] at h0
    obtain ⟨hs, cs, t, fz, hb, hv⟩ := cell_block h0
    obtain ⟨b, off, sp⟩ := a
    simp only at hs hb hv
    subst hs
    have each : ∀ i, i < n * k → cs[off + i]? = C[i]? := by
      intro i hi
      obtain ⟨v, hv⟩ : ∃ v, C[i]? = some v := ⟨_, List.getElem?_eq_getElem (by omega)⟩
      have h1 := h i v hv
      have e1 : (⟨b, off, none⟩ : Addr).add i = ⟨b, off + i, none⟩ := by
        unfold Addr.add
        by_cases h0 : i = 0
        · subst h0; simp
        · simp [h0]
      rw [e1] at h1
      obtain ⟨_, cs', t', fz', hb', hv'⟩ := cell_block h1
      simp only at hb' hv'
      rw [hb] at hb'
      cases hb'
      rw [hv', hv]
    have hsz : off + n * k ≤ cs.size := by
      have := each (n * k - 1) (by omega)
      rw [List.getElem?_eq_getElem (by omega : n * k - 1 < C.length)] at this
      have := (Array.getElem?_eq_some_iff.1 this).1
      omega
    refine ⟨b, off, cs, t, fz, rfl, lt_of_some hb, hb, hsz, ?_⟩
    apply List.ext_getElem?
    intro i
    rw [List.getElem?_take]
    split
    · rename_i hi
      rw [List.getElem?_drop, Array.getElem?_toList, each i hi]
    · rename_i hi
      rw [List.getElem?_eq_none (by omega)]
section
variable {H : Type} {enc : TypeId × Value → H} {fuel : Nat} {t e : TypeId} {cs : List Value} {y : DataW H × List MemPlace} {sp : Nat → Bool} {hd : Bool}
theorem wf_u64 {n : Int} (h : (Lit.int .u64 n).wf = true) : 0 ≤ n ∧ n ≤ 18446744073709551615 := bounds_u64 h
theorem open_u64s (ht : P.underlying t = some (.slice e)) (he : P.underlying e = some (.int .u64)) (hc : P.cellsOf e = 1) (h : DataW.trod enc P w 0 sp hd fuel t cs = some y) :
    ∃ x : Sli UInt64, cs = [x.sv.den] ∧ (x.f encU 1).F (Old w) w := by
  rcases open_ints ht he hc h with ⟨rfl, _⟩ | ⟨a, len, cap, zs, rfl, _, hl, hm, hz, _, hcell, hwf⟩
  · exact ⟨⟨[], none, 0⟩, rfl, ⟨by simp, rfl, ⟨by simp [flat], Nat.le_refl _, Nat.zero_le _, fun _ => rfl, .inl rfl⟩⟩⟩
  · have hzl : len ≤ zs.length := by rw [hz]; split <;> omega
    have hL : ((zs.take len).map U).length = len := by simp; omega
    refine ⟨⟨(zs.take len).map U, some a, cap⟩, by simp only [Sli.sv, hL]; rfl, ?_⟩
    unfold Sli.f
    rw [hL]
    have hfl : flat encU ((zs.take len).map U) = (zs.take len).map fun n => Value.int .u64 n := by
      have hw' : ∀ n ∈ zs.take len, ((U n).toNat : Int) = n := fun n hn => U_is (wf_u64 (hwf n (List.mem_of_mem_take hn)))
      generalize zs.take len = l at hw'
      induction l with
      | nil => rfl
      | cons n l ih =>
        have h1 := hw' n (List.Mem.head _)
        have h2 := ih fun m hm => hw' m (List.Mem.tail _ hm)
        show dens (encU (U n)) ++ flat encU (l.map U) = _
        rw [h2]
        show [Value.int .u64 ((U n).toNat : Int)] ++ _ = _
        rw [h1]; rfl
    refine ⟨fun x _ => okU x, hL, ?_⟩
    refine Sl.of_cells (by rw [hfl]; simp; omega) hl (by unfold maxLen at hm; omega) ?_ (by decide)
    intro i v hv
    rw [hfl, List.getElem?_map, List.getElem?_take] at hv
    split at hv
    · rename_i hi
      rw [hcell i (by omega), List.getD_eq_getElem?_getD]
      cases hzi : zs[i]? with
      | none => rw [hzi] at hv; cases hv
      | some n => rw [hzi] at hv; simpa using hv
    · cases hv
theorem open_i (ht : P.underlying t = some (.int .i64)) (h : DataW.trod enc P w 0 sp hd fuel t cs = some y) : ∃ n, cs = [SV.den (.int .i64 n)] := by
  obtain ⟨n, rfl, _, _⟩ := DataW.trod_int ht h
  exact ⟨n, rfl⟩
theorem open_str (ht : P.underlying t = some .string) (h : DataW.trod enc P w 0 sp hd fuel t cs = some y) : ∃ s : List UInt8, cs = [SV.den (.str s)] ∧ s.length ≤ 9223372036854775807 := by
  obtain ⟨s, rfl, _, h2⟩ := DataW.trod_string ht h
  refine ⟨s.data.toList, rfl, ?_⟩
  have e : s.data.toList.length = s.size := by simp
  rw [e]; unfold maxLen at h2; omega
theorem open_bins {f0 f1 : Field} (ht : P.underlying t = some (.slice e)) (he : P.underlying e = some (.struct #[f0, f1])) (hc : P.cellsOf e = 2) (o0 : f0.offset = 0) (o1 : f1.offset = 1) (c0 : P.cellsOf f0.type = 1) (c1 : P.cellsOf f1.type = 1)
    (h0 : P.underlying f0.type = some (.int .i64)) (h1 : P.underlying f1.type = some (.int .u64)) (h : DataW.trod enc P w 0 sp hd fuel t cs = some y) :
    ∃ x : Sli Bin, cs = [x.sv.den] ∧ (x.f encBin 2).F (Old w) w := by
  rcases Go.Deep.open_slice_pairs ht he hc o0 o1 c0 c1 h with ⟨rfl, _⟩ | ⟨a, len, cap, m, n, V0, V1, D0, D1, P0, P1, rfl, _, hl, hm, hmm, _, hx⟩
  · exact ⟨⟨[], none, 0⟩, rfl, ⟨by simp, rfl, ⟨by simp [flat], Nat.le_refl _, Nat.zero_le _, fun _ => rfl, .inl rfl⟩⟩⟩
  · have hlm : len ≤ m := by rw [hmm]; split <;> omega
    have each : ∀ i, ∃ b : Bin, i < len → V0 i = .int .i64 b.at_ ∧ V1 i = .int .u64 (b.n.toNat : Int) := by
      intro i
      by_cases hi : i < len
      · obtain ⟨_, _, t0, t1⟩ := hx i (by omega)
        obtain ⟨n0, e0, _, _⟩ := DataW.trod_int h0 t0
        obtain ⟨n1, e1, _, w1⟩ := DataW.trod_int h1 t1
        simp only [List.cons.injEq, and_true] at e0 e1
        exact ⟨⟨n0, U n1⟩, fun _ => ⟨e0, by rw [e1]; exact congrArg _ (U_is (wf_u64 w1)).symm⟩⟩
      · exact ⟨⟨0, 0⟩, fun h => absurd h hi⟩
    let L : Nat → Bin := fun i => Classical.choose (each i)
    have hLs : ∀ i, i < len → V0 i = .int .i64 (L i).at_ ∧ V1 i = .int .u64 ((L i).n.toNat : Int) := fun i => Classical.choose_spec (each i)
    have hL : ((List.range len).map L).length = len := by simp
    refine ⟨⟨(List.range len).map L, some a, cap⟩, by simp only [Sli.sv, hL]; rfl, ?_⟩
    unfold Sli.f
    rw [hL]
    have hget : ∀ (l : List Nat) (i : Nat), (flat encBin (l.map L))[i]? = (l[i / 2]?).map fun j => if i % 2 = 0 then Value.int .i64 (L j).at_ else .int .u64 ((L j).n.toNat : Int) := by
      intro l
      induction l with
      | nil => intro i; simp [flat]
      | cons j l ih =>
        intro i
        have e1 : flat encBin ((j :: l).map L) = Value.int .i64 (L j).at_ :: .int .u64 ((L j).n.toNat : Int) :: flat encBin (l.map L) := rfl
        rw [e1]
        match i with
        | 0 => rfl
        | 1 => rfl
        | i + 2 =>
          rw [List.getElem?_cons_succ, List.getElem?_cons_succ, ih i, show (i + 2) / 2 = i / 2 + 1 by omega, show (i + 2) % 2 = i % 2 by omega, List.getElem?_cons_succ]
    have hlen : (flat encBin ((List.range len).map L)).length = len * 2 := by
      have := flat_length (enc := encBin) (k := 2) (L := (List.range len).map L) (fun x _ => rfl)
      rw [this, hL]
    refine ⟨fun x _ => okBin x, hL, ?_⟩
    refine Sl.of_cells hlen hl (by unfold maxLen at hm; omega) ?_ (by decide)
    intro i v hv
    rw [hget] at hv
    have hi : i < len * 2 := by
      rcases Nat.lt_or_ge i (len * 2) with h | h
      · exact h
      · rw [List.getElem?_eq_none (by simp; omega)] at hv; cases hv
    rw [List.getElem?_range (by omega)] at hv
    obtain ⟨g0, g1, _, _⟩ := hx (i / 2) (by omega)
    obtain ⟨k0, k1⟩ := hLs (i / 2) (by omega)
    by_cases hp : i % 2 = 0
    · rw [show i / 2 * 2 = i by omega] at g0
      rw [g0, k0]
      simpa [hp] using hv
    · rw [show i / 2 * 2 + 1 = i by omega] at g1
      rw [g1, k1]
      simpa [hp] using hv
end
/-! ### back -/
section
variable {H : Type} {enc : TypeId × Value → H} {w' : World}
theorem trodAll_carry {base : Nat} {sp : Nat → Bool} {hd : Bool} : ∀ {ts : List TypeId} {vs : List Value} {ds : List (DataW H)} {ps : List MemPlace}, DataW.TrodAll enc P w base sp hd ts vs ds ps → (∀ p ∈ ps, w.sameAt w' p) → DataW.TrodAll enc P w' base sp hd ts vs ds ps
  | [], [], [], _, h, _ => h
  | _ :: _, _ :: _, _ :: _, _, ⟨p, q, ⟨n, h1⟩, h2, e⟩, hs => ⟨p, q, ⟨n, DataW.trod_carry n _ _ _ h1 fun x hx => hs x (by rw [e]; exact List.mem_append_left _ hx)⟩, trodAll_carry h2 fun x hx => hs x (by rw [e]; exact List.mem_append_right _ hx), e⟩
theorem Kept.sameAt (hk : Kept No w w') {p : MemPlace} (hp : p.block < w.heap.size) : w.sameAt w' p := by
  cases p with
  | cell b off =>
    show w'.cell? _ = w.cell? _
    unfold World.cell?
    rw [hk.block b hp id]
  | map b => exact hk.block b hp id
/-- a law has answered true, and has turned nothing -/
theorem law_post {f : Func} {s : ChangeSpec} {fresh handsOn : Bool} {apart : Bool} {args : Array Value} {ds gs : List (DataW H)} {before : List MemPlace} {tb : TypeId} (K : Kids P (· < P.types.size)) (hz : ∀ t e, t < P.types.size → P.underlying t = some (.slice e) → 0 < P.cellsOf e)
    (hW : DataW.Whole enc P f.params.toList s.vars apart w args.toList ds gs before) (hv : s.vars = []) (hts : ∀ t ∈ f.params.toList, t < P.types.size) (hr : f.resultTypes = #[tb]) (hb : P.underlying tb = some .bool)
    (hs : s.fn H (ds ++ gs) = { results := [.lit (.bool true)], args := ds, vars := [] }) (hk : Kept No w w') : s.post enc P f apart fresh handsOn false w args (.bool true) w' := by
  have hlt := hW.lt
  have hW' := hW
  obtain ⟨p, q, hA, hV, rfl, _, _⟩ := hW
  have hV' : gs = [] ∧ q = [] := by
    rw [hv] at hV
    cases gs with
    | nil => exact ⟨rfl, hV⟩
    | cons g r => exact absurd hV (by intro h; cases h)
  obtain ⟨rfl, rfl⟩ := hV'
  refine ⟨ds, [], p ++ [], [], p, [], hW', ?_, ?_, ?_, hk.below.frame _, fun h => by cases h⟩
  · rw [hs, hr]
    exact trodAll_mk1 (shut_bool hb true)
  · rw [hs]
    refine trodAll_carry (w := w) (DataW.TrodAll.respare K hz (fun t ht => hts t ht) hA fun x hx => ?_) fun x hx => hk.sameAt (hlt x (List.mem_append_left _ hx))
    simpa using hlt x (List.mem_append_left _ hx)
  · rw [hs, hv]; rfl
/-- a package's error, as its listing has it: where its pointer points -/
theorem sentinel_at {n nm : String} {text : List UInt8} {r : List (String × DataW Unit)} {g : Nat} {ti tp te ts : TypeId} {ms : Array (String × TypeId)} {f : Field}
    (h : laidMet P ((n, .iface nm (.ptr (.agg [.lit (.string text)]))) :: r) w)
    (hg : P.globalNamed n = some g) (ht : (P.globals[g]?).map (·.type) = some ti) (hi : P.underlying ti = some (.interface ms)) (hrow : ∀ u, P.typeName? 3 u = some nm → u = tp)
    (hp : P.underlying tp = some (.pointer te)) (he : P.underlying te = some (.struct #[f])) (hft : f.type = ts) (hfo : f.offset = 0) (hs : P.underlying ts = some .string) (hc : P.cellsOf te = 1) (hcs : P.cellsOf ts = 1) :
    ∃ (a : Addr) (t : TypeId) (s : ByteArray), (blkF g [.iface tp (.raw (.pointer (some a)))] t).F (Old w) w ∧ (ptF a).F (Old w) w ∧ w.cell? a = some (.string s) ∧ s.data.toList = text := by
  obtain ⟨ps, ⟨g0, t0, cs0, f0, p0, q0, hg0, ht0, hv0, hd0, _, e0⟩, _, hrows⟩ := h
  obtain rfl := Option.some.inj (hg.symm.trans hg0)
  obtain rfl := Option.some.inj (ht.symm.trans ht0)
  subst e0
  obtain ⟨l0⟩ := cs0
  have ok0 : ∀ u v, l0 = [.iface u v] → Value.okWide P w .any 0 u v := fun u v e => by
    subst e
    exact (hrows g 0 (by simp [MemPlace.row])).2 u v (by simpa using World.var?_cell hg0 hv0 0)
  obtain ⟨a, s, rfl, hcell, hs', _, rfl⟩ := errorString_of_trod hi hrow hp he hft hfo hs hc hcs hd0 ok0
  obtain ⟨⟨c, t, hb⟩, _⟩ := hrows g 0 (by simp [MemPlace.row])
  obtain ⟨⟨c2, t2, hb2⟩, _⟩ := hrows a.block a.off (by simp [MemPlace.row])
  have hgb : w.heap[g]? = some (.cells #[.iface tp (.pointer (some a))] t (0, 0)) := by
    unfold World.var? at hv0
    rw [hg] at hv0
    simp only [Option.bind_some, hb] at hv0
    rw [hb, Option.some.inj hv0]
  exact ⟨a, t, s, ⟨lt_of_some hgb, hgb⟩, ⟨lt_of_some hb2, c2, t2, hb2⟩, hcell, hs'⟩
end
end
end Go.Proofs.YtikjigkkhdkibaaGreatDoor.W

/- A slice of any elements, as a statement hands it in. Over any program. -/
namespace Go.Proofs.YtikjigkkhdkibaaGreatDoor.W
open Go.RowKit Go.ChangeShapes Go.WideShapes
section
variable {P : Program} {w : World} {H : Type} {enc : TypeId × Value → H} {fuel : Nat} {t e : TypeId} {cs : List Value} {y : DataW H × List MemPlace} {sp : Nat → Bool} {hd : Bool}
theorem flat_getK {α : Type} {en : α → List SV} {k : Nat} (hk : 0 < k) : ∀ {L : List α}, (∀ x ∈ L, (en x).length = k) → ∀ i, (flat en L)[i]? = (L[i / k]?).bind fun x => (dens (en x))[i % k]?
  | [], _, i => by simp [flat]
  | x :: L, h, i => by
    have hx : (dens (en x)).length = k := by rw [dens_length]; exact h x (List.Mem.head _)
    show (dens (en x) ++ flat en L)[i]? = _
    by_cases hi : i < k
    · rw [List.getElem?_append_left (by omega), Nat.div_eq_of_lt hi, Nat.mod_eq_of_lt hi]; rfl
    · rw [List.getElem?_append_right (by omega), hx, flat_getK hk (fun z hz => h z (List.Mem.tail _ hz)) (i - k)]
      have h1 : i / k = (i - k) / k + 1 := by rw [← Nat.add_div_right _ hk, Nat.sub_add_cancel (by omega)]
      have h2 : i % k = (i - k) % k := by rw [← Nat.add_mod_right (i - k), Nat.sub_add_cancel (by omega)]
      rw [h1, h2]; rfl
theorem add_add' (a : Addr) (i j : Nat) : (a.add i).add j = a.add (i + j) := Go.Deep.add_add ..
theorem choose_list {α : Type} {R : Nat → α → Prop} : ∀ {n : Nat}, (∀ i, i < n → ∃ x, R i x) → ∃ L : List α, L.length = n ∧ ∀ i x, L[i]? = some x → R i x
  | 0, _ => ⟨[], rfl, fun i x h => by simp at h⟩
  | n + 1, h => by
    obtain ⟨L, h1, h2⟩ := choose_list (n := n) fun i hi => h i (by omega)
    obtain ⟨x, hx⟩ := h n (by omega)
    refine ⟨L ++ [x], by simp [h1], fun i z hz => ?_⟩
    rcases Nat.lt_or_ge i L.length with hi | hi
    · rw [List.getElem?_append_left hi] at hz; exact h2 i z hz
    · rw [List.getElem?_append_right hi] at hz
      rcases Nat.eq_zero_or_pos (i - L.length) with h0 | h0
      · rw [h0] at hz
        obtain rfl : z = x := by simpa using hz.symm
        obtain rfl : i = n := by omega
        exact hx
      · rw [List.getElem?_eq_none (by simp; omega)] at hz; cases hz
/-- a slice that came in: its elements by one's own opener -/
theorem open_els {α : Type} (en : α → List SV) (k : Nat) (Q : α → Prop) (hk : 0 < k) (ht : P.underlying t = some (.slice e)) (hc : P.cellsOf e = k)
    (hel : ∀ (fuel : Nat) (cs : List Value) (y : DataW H × List MemPlace), DataW.trod enc P w 0 sp hd fuel e cs = some y → ∃ x : α, cs = dens (en x) ∧ okE en k x ∧ Q x) (h : DataW.trod enc P w 0 sp hd fuel t cs = some y) :
    ∃ x : Sli α, cs = [x.sv.den] ∧ (x.f en k).F (Old w) w ∧ ∀ z ∈ x.l, Q z := by
  rcases Go.Deep.open_slice ht h with ⟨rfl, _⟩ | ⟨a, len, cap, m, n, D, Pl, rfl, _, hl, hm, hmm, _, hx⟩
  · exact ⟨⟨[], none, 0⟩, rfl, ⟨by simp, rfl, ⟨by simp [flat], Nat.le_refl _, Nat.zero_le _, fun _ => rfl, .inl rfl⟩⟩, fun z hz => nomatch hz⟩
  · have hlm : len ≤ m := by rw [hmm]; split <;> omega
    have each : ∀ i, i < len → ∃ x : α, (∀ j, j < k → w.cell? (a.add (i * k + j)) = (dens (en x))[j]?) ∧ okE en k x ∧ Q x := by
      intro i hi
      obtain ⟨cs', h1, h2⟩ := hx i (by omega)
      rw [hc] at h1
      obtain ⟨_, hlen, hcell⟩ := World.cells?_some h1
      obtain ⟨x, rfl, hok, hq⟩ := hel _ _ _ h2
      exact ⟨x, fun j hj => by rw [← add_add', hcell j hj], hok, hq⟩
    obtain ⟨L, hL, hLs⟩ : ∃ L : List α, L.length = len ∧ ∀ i x, L[i]? = some x → (∀ j, j < k → w.cell? (a.add (i * k + j)) = (dens (en x))[j]?) ∧ okE en k x ∧ Q x := choose_list each
    have hmem : ∀ x ∈ L, ∃ i, L[i]? = some x := fun x hx => List.mem_iff_getElem?.1 hx
    have hok : ∀ x ∈ L, okE en k x := fun x hx => by obtain ⟨i, hi⟩ := hmem x hx; exact (hLs i x hi).2.1
    refine ⟨⟨L, some a, cap⟩, by simp only [Sli.sv, hL]; rfl, ?_, fun z hz => by obtain ⟨i, hi⟩ := hmem z hz; exact (hLs i z hi).2.2⟩
    unfold Sli.f
    rw [hL]
    refine ⟨hok, hL, ?_⟩
    refine Sl.of_cells (by rw [flat_length (fun x hx => (hok x hx).1), hL]) hl (by unfold maxLen at hm; omega) ?_ hk
    intro i v hv
    rw [flat_getK hk (fun x hx => (hok x hx).1)] at hv
    obtain ⟨x, h1, h2⟩ := Option.bind_eq_some_iff.1 hv
    have h3 := (hLs _ _ h1).1 (i % k) (Nat.mod_lt _ hk)
    rw [Nat.mul_comm (i / k) k, Nat.div_add_mod] at h3
    rw [h3, h2]
end
end Go.Proofs.YtikjigkkhdkibaaGreatDoor.W
