/- The given statement LadderCostsCardSaid is proved: the law returns true at every input, and every argument reads behind the call as it read before; no condition beyond the statement. -/
import Derived.Test.YtikjigkkhdkibaaGreatDoorTE
import Derived.Test.YtikjigkkhdkibaaGreatDoorCards
set_option linter.unusedVariables false
/- ladder: M36 -/
namespace Go.Proofs.YtikjigkkhdkibaaGreatDoor
open Go.Proofs.YtikjigkkhdkibaaGreatDoor.W
set_option maxRecDepth 100000
set_option linter.unusedVariables false
/-- a cell that nobody turns -/
def cellF (b : Nat) (v : SV) : Fact := ⟨fun A w => A b ∧ b < w.heap.size ∧ w.cell? ⟨b, 0, none⟩ = some v.den, fun A w A' w' k h => by
  obtain ⟨h1, h2, h3⟩ := h
  obtain ⟨k1, k2⟩ := k b h2 h1
  have h4 : b < w'.heap.size := by
    rcases Nat.lt_or_ge b w'.heap.size with h | h
    · exact h
    · rw [Array.getElem?_eq_none h, Array.getElem?_eq_getElem h2] at k2; cases k2
  refine ⟨k1, h4, ?_⟩
  rw [← h3]
  unfold World.cell?
  rw [k2]⟩
/-- errors' own type's handle -/
abbrev gErr : Fact := cellF 2 (.iface 225 (.agg [.raw (.pointer (some ⟨8, 74, none⟩))]))
theorem c_As (n : Int) (t : Nat) (v0 : SV) : Ct Tryz.prog 113 [(t, .cells [v0] 79)] [.iface 79 (.agg [.int .i64 n]), .iface 179 (.own 0 t 0)] [gErr] (Rs (fun _ : Unit => .bool true) (fun _ => [(t, .cells [.int .i64 n] 79)]) (fun _ => []) (fun _ => True)) := by
  refine ⟨fun M A w hr => ?_⟩
  have hc := hr.cells (i := 0) rfl
  have hg := hr.hold _ (List.Mem.head _)
  have h := as_hit n t v0.den w hg.2.2 (by rw [cell_of hc]; rfl) (frozen_of hc (Thaw.zero 1) (by omega))
  refine Calls.mono h fun e w' ⟨he, hw⟩ => ?_
  obtain ⟨w4, hw4, hk4⟩ : ∃ w4, w' = w4.setCell ⟨t, 0, none⟩ (.int .i64 n) ∧ Kept No w w4 := ⟨_, hw, (((Kept.alloc _ _ _).trans (Kept.alloc _ _ _)).trans (Kept.alloc _ _ _)).trans (Kept.alloc _ _ _)⟩
  have hr4 := hr.call hk4
  have hc4 := hr4.cells (i := 0) rfl
  rw [setCell_turned hc4] at hw4
  have hkt := kept_turned w4 t (.cells ((dens [v0]).toArray.setIfInBounds 0 (.int .i64 n)) 79 (0, 0))
  have ht := hr4.turn (x := (t, .cells [.int .i64 n] 79)) (j := 0) rfl (fun _ _ _ h => by cases h) trivial hkt rfl ⟨_, turned_block _ hc4, rfl⟩ trivial
  rw [← hw4] at ht hkt
  have hM : M t := by
    rcases ((hr.st.own 0 _ (sem_get (i := 0) rfl)).2 trivial).1 with h | h
    · exact h
    · have := lt_of_some hc; change w.heap.size ≤ t at h; omega
  refine ⟨_, he, (hk4.weaken fun _ _ h => h.elim).trans (hkt.weaken fun k _ e => by subst e; exact hM), .bool true, [(t, .cells [.int .i64 n] 79)], [], rfl, ⟨(), rfl, rfl, rfl, trivial⟩, ?_⟩
  exact ⟨ht.st, Hold.nil, ht.mu, ht.muM, ht.amb⟩

theorem c_told (n : Int) : Ct Tryz.prog 79 [] [.iface 79 (.agg [.int .i64 n])] [gErr] (Rv (.int .i64 n)) := by
  refine Ct.of Tryz.func79 rfl (n := 9) rfl rfl rfl ?_
  conv => whnf
  repeat' first
    | (refine Ob.mk rfl ?_; conv => whnf)
    | (refine Nx.mk ?_; conv => whnf)
    | (refine BR.yes ?_; conv => whnf)
    | (refine BR.no ?_; conv => whnf)
    | (intro bk; conv => whnf)
    | (show CallK _ _ 113 _ _ _ _; refine CallK.lendS [0] (c_As n _ _) ⟨rfl, trivial⟩ rfl rfl rfl (by repeat' (first | exact trivial | exact .head _ | apply List.Mem.tail | apply And.intro)) (fun _ _ => ⟨rfl, Nx.go ?_⟩))
    | (show RdB _ _ _; refine RdB.mk' (by repeat (first | exact .head _ | apply List.Mem.tail)) (Nx.go ?_))
    | (refine Ob.mk (by omega) ?_; conv => whnf)
    | (refine BR.mk (fun h => ?_) (fun h => ?_) <;> (first | rw [Bool.not_eq_true'] at h | rw [Bool.not_eq_false'] at h | skip) <;> (try rw [h]) <;> (first | replace h := of_decide_eq_true h | replace h := of_decide_eq_false h | replace h := eq_of_beq h | replace h := bne_iff_ne.1 h | replace h := beq_eq_false_iff_ne.1 h | replace h := bne_eq_false_iff_eq.1 h | skip) <;> conv => whnf)
  all_goals rfl

theorem c_endedW (v : SV) (k lv n : Int) : Ct Tryz.prog 43 [] [.agg [v, .int .i64 k, .int .i64 lv], .iface 79 (.agg [.int .i64 n])] [gErr] (Rs (fun z : SkV => .tup [z.sv, .int .i64 n]) (fun _ => []) SkV.fs (fun _ => True)) := by
  refine Ct.post (Ct.of Tryz.func43 rfl (n := 13) rfl rfl rfl ?_)
  conv => whnf
  repeat' first
    | (refine Ob.mk rfl ?_; conv => whnf)
    | (refine Nx.mk ?_; conv => whnf)
    | (refine BR.yes ?_; conv => whnf)
    | (refine BR.no ?_; conv => whnf)
    | (intro bk; conv => whnf)
    | (show CallK _ _ 79 _ _ _ _; refine CallK.rv (c_told n) (by repeat' (first | exact trivial | exact .head _ | apply List.Mem.tail | apply And.intro)) (Nx.go ?_))
    | (show Post _ _ _ _ _; exact Rs.post ⟨0, 0, nilU, 0, [], 0, 0, nilU, 0, nilB⟩ rfl (Imp.trans (Imp.nilF encU 1) (Imp.trans (Imp.nilF encBin 2) (Imp.trans (Imp.pure (p := ([] : List UInt8).length ≤ 9223372036854775807) (by decide)) (Imp.fs (by repeat' (first | exact trivial | exact .head _ | apply List.Mem.tail | apply And.intro)))))) trivial)
    | (show RdB _ _ _; refine RdB.mk' (by repeat (first | exact .head _ | apply List.Mem.tail)) (Nx.go ?_))
    | (refine AR.i64 (by omega) ?_; conv => whnf)
    | (refine AR.u64 (by omega) ?_; conv => whnf)
    | (refine AR.u8 (by omega) ?_; conv => whnf)
    | (refine Ob.mk (by omega) ?_; conv => whnf)
    | (refine BR.mk (fun h => ?_) (fun h => ?_) <;> (first | rw [Bool.not_eq_true'] at h | rw [Bool.not_eq_false'] at h | skip) <;> (try rw [h]) <;> (first | replace h := of_decide_eq_true h | replace h := of_decide_eq_false h | replace h := eq_of_beq h | replace h := bne_iff_ne.1 h | replace h := beq_eq_false_iff_ne.1 h | replace h := bne_eq_false_iff_eq.1 h | skip) <;> conv => whnf)

theorem c_ToB (x : SkV) (hr : rightS x.sk = true) (ot : Int) (hb : botI x.kind < ot) : Ct Tryz.prog 17 [] [x.sv, .int .i64 ot] (gErr :: x.fs) (Rs (fun z : SkV => .tup [z.sv, .int .i64 102]) (fun _ => []) SkV.fs (fun _ => True)) := by
  refine Ct.post (Ct.of Tryz.func17 rfl (n := 41) rfl rfl rfl ?_)
  conv => whnf
  repeat' first
    | (refine Ob.mk rfl ?_; conv => whnf)
    | (refine Nx.mk ?_; conv => whnf)
    | (refine BR.yes ?_; conv => whnf)
    | (refine BR.no ?_; conv => whnf)
    | (intro bk; conv => whnf)
    | (show CallK _ _ 42 _ _ _ _; refine CallK.rf (c_startJ x hr) (by repeat' (first | exact trivial | exact .head _ | apply List.Mem.tail | apply And.intro)) (fun wk hh => Nx.go ?_))
    | (show CallK _ _ 21 _ _ _ _; refine CallK.rv (c_bot x.kind) (by repeat' (first | exact trivial | exact .head _ | apply List.Mem.tail | apply And.intro)) (Nx.go ?_))
    | (show CallK _ _ 43 _ _ _ _; refine CallK.rf (c_endedW wk.sv x.kind x.level 102) (by repeat' (first | exact trivial | exact .head _ | apply List.Mem.tail | apply And.intro)) (fun v hv => Nx.go ?_))
    | (exact absurd h (by omega))
    | (show Post _ _ _ _ _; exact Rs.post v rfl (Imp.fs (by repeat' (first | exact trivial | exact .head _ | apply List.Mem.tail | apply And.intro))) trivial)
    | (show RdB _ _ _; refine RdB.mk' (by repeat (first | exact .head _ | apply List.Mem.tail)) (Nx.go ?_))
    | (refine AR.i64 (by omega) ?_; conv => whnf)
    | (refine AR.u64 (by omega) ?_; conv => whnf)
    | (refine AR.u8 (by omega) ?_; conv => whnf)
    | (refine Ob.mk (by omega) ?_; conv => whnf)
    | (refine BR.mk (fun h => ?_) (fun h => ?_) <;> (first | rw [Bool.not_eq_true'] at h | rw [Bool.not_eq_false'] at h | skip) <;> (try rw [h]) <;> (first | replace h := of_decide_eq_true h | replace h := of_decide_eq_false h | replace h := eq_of_beq h | replace h := bne_iff_ne.1 h | replace h := beq_eq_false_iff_ne.1 h | replace h := bne_eq_false_iff_eq.1 h | skip) <;> conv => whnf)
  all_goals trace_state

theorem c_LowB (x : SkV) (hr : rightS x.sk = true) (hb : x.level = botI x.kind) : Ct Tryz.prog 15 [] [x.sv] (gErr :: x.fs) (Rs (fun z : SkV => .tup [z.sv, .int .i64 102]) (fun _ => []) SkV.fs (fun _ => True)) := by
  have hl0 := right_lv hr
  have hb4 := botI_le x.kind
  have hl1 : 0 ≤ x.level := hl0.1
  refine Ct.post (Ct.of Tryz.func15 rfl (n := 11) rfl rfl rfl ?_)
  conv => whnf
  repeat' first
    | (refine Ob.mk rfl ?_; conv => whnf)
    | (refine Nx.mk ?_; conv => whnf)
    | (intro bk; conv => whnf)
    | (show CallK _ _ 17 _ _ _ _; refine CallK.rf (c_ToB x hr (x.level + 1) (by omega)) (by repeat' (first | exact trivial | exact .head _ | apply List.Mem.tail | apply And.intro)) (fun v hv => Nx.go ?_))
    | (show Post _ _ _ _ _; exact Rs.post v rfl (Imp.fs (by repeat' (first | exact trivial | exact .head _ | apply List.Mem.tail | apply And.intro))) trivial)
    | (show RdB _ _ _; refine RdB.mk' (by repeat (first | exact .head _ | apply List.Mem.tail)) (Nx.go ?_))
    | (refine AR.i64 (by omega) ?_; conv => whnf)
    | (refine AR.u64 (by omega) ?_; conv => whnf)
    | (refine AR.u8 (by omega) ?_; conv => whnf)
    | (refine Ob.mk (by omega) ?_; conv => whnf)
  all_goals trace_state
end Go.Proofs.YtikjigkkhdkibaaGreatDoor

/- ladder: M37 -/
namespace Go.Proofs.YtikjigkkhdkibaaGreatDoor
open Go.Proofs.YtikjigkkhdkibaaGreatDoor.W
set_option maxRecDepth 100000
set_option linter.unusedVariables false
theorem nodup_len {α : Type} [DecidableEq α] {l m : List α} (h : l.Nodup) (hs : ∀ x ∈ l, x ∈ m) : l.length ≤ m.length := by
  induction l generalizing m with
  | nil => exact Nat.zero_le _
  | cons a l ih =>
    obtain ⟨h1, h2⟩ := List.nodup_cons.1 h
    have ha := hs a (by simp)
    have := ih (m := m.erase a) h2 fun x hx => (List.mem_erase_of_ne (fun e => h1 (by rw [← e]; exact hx))).2 (hs x (by simp [hx]))
    rw [List.length_erase_of_mem ha] at this
    have := List.length_pos_of_mem ha
    rw [List.length_cons]; omega
theorem cnt_mem {q : Itm → Bool} : ∀ {S : List Itm}, cnt q S ≠ 0 → ∃ i ∈ S, q i = true
  | [], h => absurd rfl h
  | i :: S, h => by
    by_cases hq : q i = true
    · exact ⟨i, by simp, hq⟩
    · have e : cnt q (i :: S) = cnt q S := by simp [cnt, hq]
      rw [e] at h
      obtain ⟨j, hj, hq⟩ := cnt_mem h
      exact ⟨j, by simp [hj], hq⟩
theorem hist_len {f : Nat} {S : List Itm} {l : List Bin} (h : IsHist f S l) : l.length ≤ S.length := by
  have hn : (l.map (·.at_)).Nodup := List.pairwise_map.2 (h.right.rise.imp fun hlt e => by omega)
  have := nodup_len (m := S.map fun i => bkt f i.h) hn fun b hb => by
    obtain ⟨x, hx, rfl⟩ := List.mem_map.1 hb
    have h1 := look_some h.right hx
    have h2 := nat_pos (h.right.some_ x hx)
    rw [h.sum] at h1
    have h3 : cnt (fun i => decide (bkt f i.h = x.at_)) S ≠ 0 := fun e => by rw [e] at h1; exact h2 h1.symm
    obtain ⟨i, hi, hq⟩ := cnt_mem h3
    exact List.mem_map.2 ⟨i, hi, of_decide_eq_true hq⟩
  rwa [List.length_map, List.length_map] at this
theorem putG_len (a : Int) (n : UInt64) (l : List Bin) : (putG a n l).length ≤ l.length + 1 := by
  induction l with
  | nil => simp only [putG]; split <;> simp
  | cons x l ih =>
    simp only [putG]
    split
    · split <;> simp
    · split
      · simp only [List.length_cons]; omega
      · split
        · simp only [List.length_cons]; omega
        · simp only [List.length_cons]; omega
theorem lowF_len (m l : List Bin) : (lowF m l).length ≤ m.length + l.length := by
  unfold lowF
  induction l generalizing m with
  | nil => simp
  | cons x l ih =>
    have h1 := ih (putG ((x.at_ + 1).tdiv 2) x.n m)
    have h2 := putG_len ((x.at_ + 1).tdiv 2) x.n m
    rw [List.foldl_cons, List.length_cons]; omega
theorem cost_le {k : Int} {L : Nat} {S : List Itm} {x : Sk} (h : IsOf k L S x) (hS : S.length ≤ 100) : 16 ≤ costS x ∧ costS x ≤ 1616 := by
  rcases h with ⟨rfl, hL, h⟩ | ⟨rfl, hL, c, rfl, h⟩ | ⟨rfl, hL, g, rfl, h⟩
  · rcases h with ⟨h1, h2, rfl⟩ | ⟨r, M, rfl, h2, h3, h4, h5⟩
    · show 16 ≤ 16 + ((8 * (setE S).length + 0 + 8 * 0 + 16 * 0 : Nat) : Int) ∧ 16 + ((8 * (setE S).length + 0 + 8 * 0 + 16 * 0 : Nat) : Int) ≤ 1616
      omega
    · have hl := h2.len
      have hp : 2 ^ (8 - M) ≤ 2 ^ 8 := Nat.pow_le_pow_right (by omega) (by omega)
      show 16 ≤ 16 + ((8 * 0 + r.length + 8 * 0 + 16 * 0 : Nat) : Int) ∧ 16 + ((8 * 0 + r.length + 8 * 0 + 16 * 0 : Nat) : Int) ≤ 1616
      omega
  · have hl := h.len
    have hp : 32 / 2 ^ L ≤ 32 := Nat.div_le_self _ _
    show 16 ≤ 16 + ((8 * 0 + 0 + 8 * c.length + 16 * 0 : Nat) : Int) ∧ 16 + ((8 * 0 + 0 + 8 * c.length + 16 * 0 : Nat) : Int) ≤ 1616
    omega
  · have hl := hist_len h
    show 16 ≤ 16 + ((8 * 0 + 0 + 8 * 0 + 16 * g.length : Nat) : Int) ∧ 16 + ((8 * 0 + 0 + 8 * 0 + 16 * g.length : Nat) : Int) ≤ 1616
    omega
theorem cost_low {k : Int} {L : Nat} {S : List Itm} {x : Sk} (h : IsOf k L S x) (hb : x.level < botI x.kind) : 16 ≤ costS (lowS x) ∧ (k = 2 → costS (lowS x) < costS x) ∧ (k = 3 → costS (lowS x) ≤ costS x) ∧ (k = 1 → x.level ≠ 0 → costS (lowS x) < costS x) ∧ (lowS x).level = x.level + 1 := by
  have hlv := (lowS_props (isOf_right h)).2
  refine ⟨by unfold costS; omega, ?_, ?_, ?_, hlv⟩
  · rintro rfl
    rcases h with ⟨h1, _⟩ | ⟨_, hL, c, rfl, h⟩ | ⟨h1, _⟩
    · cases h1
    · have hl := h.len
      change (L : Int) < botI 2 at hb
      have e : botI 2 = 3 := rfl
      rw [e] at hb
      show 16 + ((8 * 0 + 0 + 8 * (lowC 2 (32 / 2 ^ L) c).length + 16 * 0 : Nat) : Int) < 16 + ((8 * 0 + 0 + 8 * c.length + 16 * 0 : Nat) : Int)
      rw [lowC_len]
      have : L = 0 ∨ L = 1 ∨ L = 2 := by omega
      rcases this with rfl | rfl | rfl <;> simp only [Nat.reducePow, Nat.reduceDiv] at hl ⊢ <;> omega
    · cases h1
  · rintro rfl
    rcases h with ⟨h1, _⟩ | ⟨h1, _⟩ | ⟨_, hL, g, rfl, h⟩
    · cases h1
    · cases h1
    · have hl := lowF_len [] g
      rw [List.length_nil] at hl
      show 16 + ((8 * 0 + 0 + 8 * 0 + 16 * (lowF [] g).length : Nat) : Int) ≤ 16 + ((8 * 0 + 0 + 8 * 0 + 16 * g.length : Nat) : Int)
      omega
  · rintro rfl h0
    rcases h with ⟨_, hL, h⟩ | ⟨h1, _⟩ | ⟨h1, _⟩
    · rcases h with ⟨h1, h2, rfl⟩ | ⟨r, M, rfl, h2, h3, h4, h5⟩
      · exact absurd rfl h0
      · have hl := h2.len
        have hp : 2 ^ 4 ≤ 2 ^ (8 - M) := Nat.pow_le_pow_right (by omega) (by omega)
        rw [lowS_R r (by omega)]
        show 16 + ((8 * 0 + (lowR r).length + 8 * 0 + 16 * 0 : Nat) : Int) < 16 + ((8 * 0 + r.length + 8 * 0 + 16 * 0 : Nat) : Int)
        rw [lowR_len]; omega
    · cases h1
    · cases h1
theorem low_right {k : Int} {L : Nat} {S : List Itm} {x : Sk} (h : IsOf k L S x) (hb : x.level < botI x.kind) : rightS (lowS x) = true := by
  obtain ⟨n, e1, e2, e3, e4, e5, e6⟩ := h.lev
  rw [e3, bot_is e5, e1] at hb
  exact (isOf_lowOk e6 e1 1 (by omega)).2
theorem low_cases {x : Sk} (h : rightS x = true) : x.level = botI x.kind ∨ x.level < botI x.kind := by
  have := right_lv h; omega
theorem isOf_kind {k : Int} {L : Nat} {S : List Itm} {x : Sk} (h : IsOf k L S x) : x.kind = k := by
  obtain ⟨n, e1, e2, e3, _⟩ := h.lev
  exact e3

theorem c_LCos (k a : Int) (l : Sli Itm) : Ct Tryz.prog 5 [] [.int .i64 k, .int .i64 a, l.sv] [gErr, l.f encItm 2] (Rv (.bool true)) := by
  refine Ct.of Tryz.func5 rfl (n := 110) rfl rfl rfl ?_
  conv => whnf
  repeat' first
    | (refine Ob.mk rfl ?_; conv => whnf)
    | (refine Nx.mk ?_; conv => whnf)
    | (refine BR.yes ?_; conv => whnf)
    | (refine BR.no ?_; conv => whnf)
    | (intro bk; conv => whnf)
    | (show CallK _ _ _ _ _ _ _; refine CallK.rv c_shown (by repeat' (first | exact trivial | exact .head _ | apply List.Mem.tail | apply And.intro)) (Nx.go ?_))
    | (show CallK _ _ 21 _ _ _ _; refine CallK.rv (c_bot k) (by repeat' (first | exact trivial | exact .head _ | apply List.Mem.tail | apply And.intro)) (Nx.go ?_))
    | (show CallK _ _ 23 _ _ _ _; refine CallK.rf (c_few l) (by repeat' (first | exact trivial | exact .head _ | apply List.Mem.tail | apply And.intro)) (fun s hs => Nx.go ?_))
    | (show CallK _ _ 22 _ _ _ _; refine CallK.rf (c_ofI k a (by omega) (by omega) s) (by repeat' (first | exact trivial | exact .head _ | apply List.Mem.tail | apply And.intro)) (fun x hx => Nx.go ?_))
    | (show CallK _ _ 15 _ _ _ _; refine CallK.rf (c_LowB x (isOf_right hx) hB) (by repeat' (first | exact trivial | exact .head _ | apply List.Mem.tail | apply And.intro)) (fun y hy => Nx.go ?_))
    | (show CallK _ _ 15 _ _ _ _; refine CallK.rf (c_Low x (isOf_right hx) hB (low_right hx hB)) (by repeat' (first | exact trivial | exact .head _ | apply List.Mem.tail | apply And.intro)) (fun y hy => Nx.go ?_))
    | (show CallK _ _ 24 _ _ _ _; refine CallK.rv (c_Cst x (isOf_right hx)) (by repeat' (first | exact trivial | exact .head _ | apply List.Mem.tail | apply And.intro)) (Nx.go ?_))
    | (show CallK _ _ 24 _ _ _ _; refine CallK.rv (c_Cst y (right_is (low_right hx hB) hy)) (by repeat' (first | exact trivial | exact .head _ | apply List.Mem.tail | apply And.intro)) (Nx.go ?_))
    | (show CallK _ _ 15 _ _ _ _; have hc := cost_le hx (few_len hs); have hk : x.kind = k := isOf_kind hx; have hlv : 0 ≤ x.level ∧ x.level ≤ botI x.kind := right_lv (isOf_right hx); have hb4 := botI_le x.kind; have hB0 : x.level = botI x.kind ∨ x.level < botI x.kind := low_cases (isOf_right hx); rcases hB0 with hB | hB)
    | (refine SemC.draw 10 [] [.t 0, .t 1, .t 2, .t 3, .t 4, .t 5, .t 6, .t 7, .t 8, .s 9, .t 10, .t 11, .t 12] (by kernel_rfl) (by kernel_rfl) ?_; conv => whnf)
    | (show RdB _ _ _; refine RdB.mk' (by repeat (first | exact .head _ | apply List.Mem.tail)) (Nx.go ?_))
    | (refine AR.i64 (by omega) ?_; conv => whnf)
    | (refine AR.u64 (by omega) ?_; conv => whnf)
    | (refine AR.u8 (by omega) ?_; conv => whnf)
    | (refine Ob.mk (by omega) ?_; conv => whnf)
    | (refine BR.mk (fun h => ?_) (fun h => ?_) <;> (first | rw [Bool.not_eq_true'] at h | rw [Bool.not_eq_false'] at h | skip) <;> (try rw [h]) <;> (first | replace h := of_decide_eq_true h | replace h := of_decide_eq_false h | replace h := eq_of_beq h | replace h := bne_iff_ne.1 h | replace h := beq_eq_false_iff_ne.1 h | replace h := bne_eq_false_iff_eq.1 h | skip) <;> conv => whnf)
  all_goals try rfl
  all_goals try (exact absurd h (by omega))
  · exact congrArg SV.bool (beq_iff_eq.2 (by rw [← hk]; exact hB))
  all_goals (have hw := cost_low hx hB; rw [← hy] at hw; have hyl : y.level = x.level + 1 := hw.2.2.2.2; have hw2 := hw.2.1; have hw3 := hw.2.2.1; have hw4 : k = 1 → x.level ≠ 0 → costS y.sk < costS x.sk := hw.2.2.2.1; have hw1 := hw.1)
  · exact congrArg SV.bool (decide_eq_true (hw4 (by omega) (by omega)))
  all_goals (first | exact absurd h (by omega) | trace_state)
end Go.Proofs.YtikjigkkhdkibaaGreatDoor

/- ladder: M44 -/
namespace Go.Proofs.YtikjigkkhdkibaaGreatDoor
open Go.Proofs.YtikjigkkhdkibaaGreatDoor.W
set_option maxRecDepth 100000
set_option linter.unusedVariables false
theorem rows_error : ((List.range 378).all fun ty => !(Tryz.prog.rowNamed ty [101, 114, 114, 111, 114]) || Nat.beq ty 74) = true := by kernel_rfl
theorem gErr_of_laid {w : World} (h : laidMetH Tryz.prog laidL w) : gErr.F (Old w) w := by
  have hf : (laidL.filter fun x => x.2.handleName?.isSome) = laidL := by kernel_rfl
  unfold laidMetH at h
  rw [hf] at h
  have h2 := h.2 ("errors.errorType", Rows.laid_errors_errorType) (List.Mem.head _)
  have hn : (Rows.laid_errors_errorType : DataW Unit).funcsIn? = none := by kernel_rfl
  dsimp only at h2
  rw [hn] at h2
  obtain ⟨name, u, ty, e1, e2, e3, e4, e5⟩ := h2
  have hname : (Rows.laid_errors_errorType : DataW Unit).handleName? = some [101, 114, 114, 111, 114] := by kernel_rfl
  have hu : (Tryz.prog.cutTypes.find? (·.1 == "internal/reflectlite.rtype")).map (·.2) = some 225 := by kernel_rfl
  rw [hname] at e1
  rw [hu] at e2
  cases e1
  cases e2
  have hty : ty = 74 := by
    have h5 := List.all_eq_true.1 rows_error ty (List.mem_range.2 e3)
    rw [e4] at h5
    simpa using h5
  subst hty
  have hg : Tryz.prog.globalNamed "errors.errorType" = some 2 := by kernel_rfl
  unfold World.var? at e5
  rw [hg, Option.bind_some] at e5
  split at e5
  · rename_i cs t fz hh
    cases e5
    exact ⟨lt_of_some hh, lt_of_some hh, cell_of hh 0⟩
  · cases e5
end Go.Proofs.YtikjigkkhdkibaaGreatDoor

/- ladder: M45 -/
namespace Go.Proofs.YtikjigkkhdkibaaGreatDoor
open Go.Proofs.YtikjigkkhdkibaaGreatDoor.W
set_option maxRecDepth 100000
set_option linter.unusedVariables false
open Go.ChangeShapes Go.WideShapes Go.RowKit

set_option maxRecDepth 100000 in
theorem ladderCosts_lifted (os : Os) (started : os.Started) (H : Type) (enc : TypeId × Value → H) :
    ReturnsInHanded {} Tryz.checked os 5 .any (fun w args => (Rows.ladderCostsSpec.pre enc Tryz.prog Tryz.f5 [] false w args ∧ laidMetH Tryz.prog laidL w) ∧ sizedMet enc Tryz.prog Tryz.f5 (OpenSpec.ofChange Rows.ladderCostsSpec) false w args)
      (Rows.ladderCostsSpec.post enc Tryz.prog Tryz.f5 false true false false) := by
  refine returnsInHanded_of_change_and (C := Tryz.checked) (X := fun w _ => laidMetH Tryz.prog laidL w) (fun _ _ _ hh h => h.of_heap hh) Tryz.own started (by kernel_rfl) Tryz.func5
    (ChangeSpec.witness_at (enc := enc) (C := Tryz.checked) (os := os) (X := fun w _ => laidMetH Tryz.prog laidL w) false (laidWorld os) #[.int .i64 0, .int .i64 0, .slice none 0 0] 8 rfl (by kernel_rfl) (by kernel_rfl) (by kernel_rfl) (by kernel_rfl) (by kernel_rfl) (laidWorld_met os _)) ?_
  intro W base args ds gs before hval0 hW _ _ hL _
  have hval : ∀ (j : Nat) t v, Tryz.f5.params[j]? = some t → args[j]? = some v → Value.okWide Tryz.prog W .any base t v := hval0
  have hW' := hW
  obtain ⟨p, q, hA0, hV, rfl, hfz, hnd⟩ := hW
  have hA : DataW.TrodAll enc Tryz.prog W 0 (fun _ => true) true Tryz.f5.params.toList args.toList ds p := hA0
  rw [Tryz.params5] at hA hval
  obtain ⟨rfl, rfl⟩ := trodVars_none hV
  obtain ⟨v0, vs0, d0, ds0, p0, q0, hargs, rfl, rfl, h0, r0⟩ := trodAll_cons hA
  obtain ⟨v1, vs1, d1, ds1, p1, q1, rfl, rfl, rfl, h1, r1⟩ := trodAll_cons r0
  obtain ⟨v2, vs2, d2, ds2, p2, q2, rfl, rfl, rfl, h2, r2⟩ := trodAll_cons r1
  obtain ⟨rfl, rfl, rfl⟩ := trodAll_nil r2
  obtain rfl : args = #[v0, v1, v2] := by cases args; simp_all
  clear hA0 hval0
  obtain ⟨n0, rfl, rfl, rfl, w0⟩ := open_int Tryz.underlying3 (hval 0 3 v0 rfl rfl) h0
  obtain ⟨n1, rfl, rfl, rfl, w1⟩ := open_int Tryz.underlying3 (hval 1 3 v1 rfl rfl) h1
  obtain ⟨a2, l2, c2, hv2⟩ := okWide_slice Tryz.underlying43 (hval 2 43 v2 rfl rfl)
  obtain ⟨fuel2, hf2⟩ := h2
  obtain ⟨x2, hx2, hh2⟩ := open_items hf2
  obtain rfl : v2 = x2.sv.den := by rw [hv2] at hx2 ⊢; simpa [Value.cells] using hx2
  refine (Ct.run (c_LCos n0 n1 x2) (Hold.cons (gErr_of_laid hL) hh2)).mono fun e W' ⟨r, bs, Ψ, he, hk, hr⟩ => ?_
  have hr' : r = .bool true := hr
  subst hr'
  subst he
  exact ⟨_, rfl, law_post (tb := 4) Tryz.kids Tryz.full hW' rfl (by rw [Tryz.params5]; decide) (by kernel_rfl) Tryz.underlying4 rfl hk⟩
theorem ladderCosts_holds : Rows.LadderCostsSaid :=
  OpenClaim.holds_of_wide 5 Tryz.f5 rfl rfl rfl rfl rfl rfl rfl ⟨rfl, rfl, rfl, rfl, rfl⟩ rfl rfl rfl rfl rfl (by kernel_rfl) Tryz.func5 (by kernel_rfl)
    (of_decide_eq_true (by kernel_rfl)) (by unfold Func.isWrapper; first | (rw [if_pos (by decide +kernel)]; kernel_rfl) | (rw [if_neg (by decide +kernel)]; exact ⟨rfl, rfl⟩))
    (fun os started H enc _ => ladderCosts_lifted os started H enc)

open Go
/-- the card -/
theorem ladderCosts_card : Rows.LadderCostsCardSaid :=
  Claim7.holds_tied_plain_at .later [] [.handle] true (true, "6376b105e2b68690215ecc2df72d7bd192a7d59d02b22c814246f9becf63a2f0") true
    ladderCosts_holds (fun _ h => by cases h) (by kernel_rfl) (fun _ h => by cases h) ladderCosts_row_tie rfl ⟨rfl, rfl⟩ (by kernel_rfl) rfl
    (fun f fn hf hfn => by
      obtain rfl : f = 5 := Option.some.inj ((show Tryz.prog.funcNamed "aviary/aviarylaw10.LadderCosts" = some 5 by kernel_rfl).symm.trans hf) |>.symm
      obtain rfl : fn = Tryz.f5 := (Option.some.inj (Tryz.func5.symm.trans hfn)).symm
      exact ⟨by kernel_rfl, fun j t ht => by
        rw [Tryz.params5] at ht
        match j, ht with
        | 0, ht => obtain rfl : t = 3 := (Option.some.inj ht).symm; exact (show Tryz.prog.wantsStandIn 3 = false by kernel_rfl)
        | 1, ht => obtain rfl : t = 3 := (Option.some.inj ht).symm; exact (show Tryz.prog.wantsStandIn 3 = false by kernel_rfl)
        | 2, ht => obtain rfl : t = 43 := (Option.some.inj ht).symm; exact (show Tryz.prog.wantsStandIn 43 = false by kernel_rfl)
        | j + 3, ht => simp at ht⟩)
    (by kernel_rfl)
end Go.Proofs.YtikjigkkhdkibaaGreatDoor
