/- The given statement CodeBackCardSaid is proved: the law returns true at every input, and every argument reads behind the call as it read before; no condition beyond the statement. -/
import Derived.Test.YtpdpajafaifcjaaGreatDoorTC
import Derived.Test.YtpdpajafaifcjaaGreatDoorWB
import Derived.Test.YtpdpajafaifcjaaGreatDoorRows
import Derived.LaidLaws
import Derived.JoinedOf
import Derived.Test.YtpdpajafaifcjaaGreatDoorCards
import Derived.Test.YtpdpajafaifcjaaGreatDoorTie
import Derived.SevenTiedAt
set_option linter.unusedVariables false
/- encode -/
namespace Go.Proofs.YtpdpajafaifcjaaGreatDoor
open Go.Proofs.YtpdpajafaifcjaaGreatDoor.W
set_option maxRecDepth 100000
set_option linter.unusedVariables false
theorem szF_le (n : Nat) : ∀ f k : Nat, k ≤ 8 → szF n f k ≤ 8
  | 0, k, h => h
  | f + 1, k, h => by
    rw [szF]; split
    · exact szF_le n f (k + 1) (by omega)
    · exact h
theorem putN_len (n : Nat) : 1 ≤ (putN n).length ∧ (putN n).length ≤ 9 := by
  have := szF_le n 5 3 (by decide)
  unfold putN sz
  split
  · simp
  · split
    · simp [be_len]
    · split
      · simp [be_len]
      · simp only [List.length_cons, be_len]; omega
theorem putL_len9 (l : List UInt64) : l.length ≤ (putL l).length ∧ (putL l).length ≤ 9 * l.length := by
  induction l with
  | nil => exact ⟨Nat.le_refl _, Nat.le_refl _⟩
  | cons x l ih =>
    have := putN_len x.toNat
    have e : putL (x :: l) = putN x.toNat ++ putL l := rfl
    rw [e, List.length_append, List.length_cons]; omega
theorem numX_inv {l : List UInt64} {i : Nat} {v : List SV} (h : (numX l)[i]? = some v) : ∃ n, l[i]? = some n ∧ v = [.int .u64 n.toNat] := by
  simp only [numX, List.getElem?_map, Option.map_eq_some_iff] at h
  obtain ⟨n, h1, rfl⟩ := h
  exact ⟨n, h1, rfl⟩
theorem numS_len (x : Sk) : (numS x).length ≤ 1 + x.e.length + x.c.length + 2 * x.g.length := by
  have := headN_len x
  rw [numS, List.length_append, List.length_append, List.length_append, difU_len, binN_len]; omega
theorem hOk_at {f : Int} : ∀ {a : Int} {l : List Bin}, hOk f a l = true → ∀ y ∈ l, 0 ≤ y.at_ ∧ y.at_ ≤ 512
  | _, [], _, y, hy => by cases hy
  | a, b :: r, h, y, hy => by
    simp only [hOk, Bool.and_eq_true] at h
    rcases List.mem_cons.1 hy with rfl | hy
    · exact (bOk_range h.1.1.1).2
    · exact hOk_at h.2 y hy
theorem rightS_at {x : Sk} (h : rightS x = true) : (1 ≤ x.kind ∧ x.kind ≤ 3 ∧ 0 ≤ x.level ∧ x.level ≤ 4) ∧ ∀ y ∈ x.g, 0 ≤ y.at_ ∧ y.at_ ≤ 1000000 := by
  simp only [rightS, Bool.and_eq_true, decide_eq_true_eq] at h
  obtain ⟨⟨⟨h1, h2⟩, h3⟩, h4⟩ := h
  have h5 := botI_le x.kind
  refine ⟨⟨by omega, by omega, by omega, by omega⟩, fun y hy => ?_⟩
  rcases h1 with h1 | h1 | h1
  · have h6 := congrArg Sk.g h4
    rw [endS, if_pos h1] at h6
    rw [← h6] at hy
    split at hy <;> cases hy
  · have h6 := congrArg Sk.g h4
    rw [endS, if_neg (by omega), if_pos h1] at h6
    rw [← h6] at hy
    cases hy
  · rw [okS, if_neg (by omega), if_neg (by omega)] at h3
    simp only [histRight, Bool.and_eq_true] at h3
    have := hOk_at h3.1.2 y hy
    omega
/-- a sketch's bytes -/
def encS (x : Sk) : List UInt8 := putL [U x.kind, U x.level] ++ x.regs ++ putL (numS x)
theorem c_putX (x : Sli UInt64) (l : List UInt64) (h : x.l = l) (h9 : l.length ≤ 1000000) : Ct Tryz.prog 19 [] [x.sv] [x.f encU 1] (Rv (.str (putL l))) := by
  subst h; exact c_put x (by have := (putL_len9 x.l).2; omega)
def encB (x : Sk) : List UInt8 := if rightS x = true then encS x else []
def encE (x : Sk) : Int := if rightS x = true then 0 else 100

theorem c_num (x : SkV) : Ct Tryz.prog 20 [] [x.sv] x.fs (Rs (fun b : Nat => .fn 30 [] [.raw (.pointer (some ⟨b, 0, none⟩))]) (fun _ => []) (fun b => blkF b x.cs 33 :: x.fs) (fun _ => True)) := by
  refine Ct.post (Ct.of Tryz.func20 rfl (n := 4) rfl rfl rfl ?_)
  conv => whnf
  repeat' first
    | (refine Ob.mk rfl ?_; conv => whnf)
    | (refine Nx.mk ?_; conv => whnf)
    | (intro bk; conv => whnf)
    | (show Post _ _ _ _ _; exact Rs.post bk rfl ((Imp.pubCells 0 rfl).trans (Imp.fs (by repeat' (first | exact trivial | exact .head _ | apply List.Mem.tail | apply And.intro)))) trivial)
    | (refine Ob.mk (by omega) ?_; conv => whnf)

theorem c_encF (x : SkV) (he : x.e.l.length ≤ 100000) (hc : x.c.l.length ≤ 100000) (hg : x.g.l.length ≤ 100000) (hr : x.regs.length ≤ 1000000) (h0 : rightS x.sk = false) : Ct Tryz.prog 8 [] [x.sv] x.fs (Rv (.tup [.str [], .int .i64 100])) := by
  refine Ct.of Tryz.func8 rfl (n := 30) rfl rfl rfl ?_
  conv => whnf
  repeat' first
    | (refine Ob.mk rfl ?_; conv => whnf)
    | (refine Nx.mk ?_; conv => whnf)
    | (refine BR.yes ?_; conv => whnf)
    | (refine BR.no ?_; conv => whnf)
    | (intro bk; conv => whnf)
    | (show CallK _ _ 12 _ _ _ _; refine CallK.rv (c_rightX x (by omega) (by omega) (by omega) (by omega) h0) (by repeat' (first | exact trivial | exact .head _ | apply List.Mem.tail | apply And.intro)) (Nx.go ?_))
    | (refine SemC.draw 6 [] [.t 0, .t 1, .s 2, .s 3, .t 4, .l 5] (by kernel_rfl) (by kernel_rfl) ?_; conv => whnf)
    | (show RdB _ _ _; refine RdB.mk' (by repeat (first | exact .head _ | apply List.Mem.tail)) (Nx.go ?_))
    | (refine AR.i64 (by omega) ?_; conv => whnf)
    | (refine AR.u64 (by omega) ?_; conv => whnf)
    | (refine AR.u8 (by omega) ?_; conv => whnf)
    | (refine Ob.mk (by omega) ?_; conv => whnf)
    | (refine BR.mk (fun h => ?_) (fun h => ?_) <;> (first | rw [Bool.not_eq_true'] at h | rw [Bool.not_eq_false'] at h | skip) <;> (try rw [h]) <;> (first | replace h := of_decide_eq_true h | replace h := of_decide_eq_false h | replace h := eq_of_beq h | replace h := bne_iff_ne.1 h | replace h := beq_eq_false_iff_ne.1 h | replace h := bne_eq_false_iff_eq.1 h | skip) <;> conv => whnf)
  rfl

theorem enc_le {pre regs y : List UInt8} {l : List UInt64} {i : Nat} {n : UInt64} (h : y = pre ++ regs ++ putL (l.take i)) (h1 : pre.length ≤ 18) (h2 : regs.length ≤ 1000000) (h3 : l.length ≤ 500000) : y.length + (putL [n]).length ≤ 9223372036854775807 := by
  have h4 := putL_le l i
  have h5 := (putL_len9 l).2
  have h6 : (putL [n]).length ≤ 9 := (putL_len9 [n]).2
  rw [h, List.length_append, List.length_append]; omega

theorem c_encT (u : SkV) (he : u.e.l.length ≤ 100000) (hc : u.c.l.length ≤ 100000) (hg : u.g.l.length ≤ 100000) (hr : u.regs.length ≤ 1000000) (h0 : rightS u.sk = true) : Ct Tryz.prog 8 [] [u.sv] u.fs (Rv (.tup [.str (encS u.sk), .int .i64 0])) := by
  have hat : (1 ≤ u.kind ∧ u.kind ≤ 3 ∧ 0 ≤ u.level ∧ u.level ≤ 4) ∧ ∀ y ∈ u.g.l, 0 ≤ y.at_ ∧ y.at_ ≤ 1000000 := rightS_at h0
  have hL : (numS u.sk).length ≤ 1 + u.e.l.length + u.c.l.length + 2 * u.g.l.length := numS_len u.sk
  have h18 : (putL [U u.kind, U u.level]).length ≤ 18 := (putL_len9 [U u.kind, U u.level]).2
  refine Ct.of Tryz.func8 rfl (n := 30) rfl rfl rfl ?_
  conv => whnf
  repeat' first
    | (show SemO _ _ (.buildSlice _ _ #[(0, .tmp 11), (1, .tmp 14)]) _ _ _ _ _; refine SemO.lit ?_; (conv => whnf); show BsV _ _ _ _ _; refine BsV.s [U u.kind, U u.level] (by repeat (first | exact .nil | refine .cons (by first | rfl | exact encB_of (by omega) | exact encU_U (by omega)) ?_)) (fun xo _ => okU xo) (fun ys hys => Nx.go ?_))
    | (show SemO _ _ (.buildSlice _ _ #[(0, .tmp 25)]) _ _ _ _ _; refine SemO.lit ?_; (conv => whnf); show BsV _ _ _ _ _; refine BsV.s [n] (by repeat (first | exact .nil | refine .cons (by first | rfl | exact encB_of (by omega) | exact encU_U (by omega)) ?_)) (fun xo _ => okU xo) (fun ys hys => Nx.go ?_))
    | (refine SemC.drawT 3 [] (.many [.t 0, .t 1, .t 2, .t 3, .t 4, .t 5, .t 8, .t 9, .t 10] (.two 6 (.two 7 (.many [.t 11, .s 12, .l 13] .nil) 12 (.many [.s 7, .t 11, .l 13] .nil)) 12 (.many [.s 6, .s 7, .t 11, .l 13] .nil))) (by kernel_rfl) (by kernel_rfl) ?_; conv => whnf)
    | (refine Two.mk ?_ ?_ <;> conv => whnf)
    | (show AR .u64 u.kind _; refine AR.u64 (by omega) ?_; conv => whnf)
    | (show AR .u64 u.level _; refine AR.u64 (by omega) ?_; conv => whnf)
    | (show Ob (x.length + (putL [n]).length ≤ _) _; refine Ob.mk (enc_le hx h18 hr (by omega)) ?_; conv => whnf)
    | (refine Ob.mk rfl ?_; conv => whnf)
    | (refine Nx.mk ?_; conv => whnf)
    | (refine BR.yes ?_; conv => whnf)
    | (refine BR.no ?_; conv => whnf)
    | (intro bk; conv => whnf)
    | (show CallK _ _ 12 _ _ _ _; refine CallK.rv (c_rightX u (by omega) (by omega) (by omega) (by omega) h0) (by repeat' (first | exact trivial | exact .head _ | apply List.Mem.tail | apply And.intro)) (Nx.go ?_))
    | (show CallK _ _ 19 _ _ _ _; refine CallK.rv (c_putX ys _ hys (Nat.le_of_ble_eq_true rfl)) (by repeat' (first | exact trivial | exact .head _ | apply List.Mem.tail | apply And.intro)) (Nx.go ?_))
    | (show CallK _ _ 20 _ _ _ _; refine CallK.rf (c_num u) (by repeat' (first | exact trivial | exact .head _ | apply List.Mem.tail | apply And.intro)) (fun bb hb => Nx.go ?_))
    | (show SemC _ _ _ (.rangeFunc _ _ (.region 5 _ _) _) _ _ _ _ _; refine SemC.rangeC (σ := List UInt8) (fun lb y => setCells lb 1 [.str y]) (fun i y => y = (putL [U u.kind, U u.level] ++ u.regs) ++ putL ((numS u.sk).take i)) (fun c x => False) (numX (numS u.sk)) 2 (i_num u bb he hc hg hat.2) ((putL [U u.kind, U u.level] ++ u.regs)) ?_ (fun _ => rfl) (fun D r => Imp.to 4 rfl (by repeat' (first | exact trivial | exact .head _ | apply List.Mem.tail | apply And.intro))) (by repeat' (first | exact trivial | exact .head _ | apply List.Mem.tail | apply And.intro)) rfl (fun D rc nr x a hx ha => ?_) (fun D x o hx => ?_) (fun D c x o hx => ?_))
    | (refine Nx1.mk ?_; obtain ⟨n, hn, rfl⟩ := numX_inv ha; (conv => whnf))
    | (refine Nx2.mk ?_; exact hx.elim)
    | (show EndS _ _ _ _ _ _ _; refine EndS.mark 2 rfl rfl (fun o => Nx.go ?_))
    | (refine Ob.mk ⟨rfl, rfl⟩ ?_; conv => whnf)
    | (show Exists _; refine Exists.intro (x ++ putL [n]) ⟨?_, Imp.to 4 rfl (by repeat' (first | exact trivial | exact .head _ | apply List.Mem.tail | apply And.intro))⟩)
    | (refine SemC.draw 6 [] [.t 0, .t 1, .s 2, .s 3, .t 4, .l 5] (by kernel_rfl) (by kernel_rfl) ?_; conv => whnf)
    | (show RdB _ _ _; refine RdB.mk' (by repeat (first | exact .head _ | apply List.Mem.tail)) (Nx.go ?_))
    | (refine AR.i64 (by omega) ?_; conv => whnf)
    | (refine AR.u64 (by omega) ?_; conv => whnf)
    | (refine AR.u8 (by omega) ?_; conv => whnf)
    | (refine Ob.mk (by omega) ?_; conv => whnf)
    | (refine BR.mk (fun h => ?_) (fun h => ?_) <;> (first | rw [Bool.not_eq_true'] at h | rw [Bool.not_eq_false'] at h | skip) <;> (try rw [h]) <;> (first | replace h := of_decide_eq_true h | replace h := of_decide_eq_false h | replace h := eq_of_beq h | replace h := bne_iff_ne.1 h | replace h := beq_eq_false_iff_ne.1 h | replace h := bne_eq_false_iff_eq.1 h | skip) <;> conv => whnf)
  all_goals (try exact (List.append_nil _).symm)
  all_goals (try (show x ++ putL [n] = _; rw [hx, putL_take hn, List.append_assoc]; simp [putL]; done))
  all_goals (rw [hx, numX, List.length_map, List.take_length]; rfl)
end Go.Proofs.YtpdpajafaifcjaaGreatDoor

/- decode -/
namespace Go.Proofs.YtpdpajafaifcjaaGreatDoor
open Go.Proofs.YtpdpajafaifcjaaGreatDoor.W
set_option maxRecDepth 100000
set_option linter.unusedVariables false
theorem c_enc (x : SkV) (he : x.e.l.length ≤ 100000) (hc : x.c.l.length ≤ 100000) (hg : x.g.l.length ≤ 100000) (hr : x.regs.length ≤ 1000000) : Ct Tryz.prog 8 [] [x.sv] x.fs (Rv (.tup [.str (encB x.sk), .int .i64 (encE x.sk)])) := by
  rcases h : rightS x.sk
  · rw [encB, encE, h]; exact c_encF x he hc hg hr h
  · rw [encB, encE, h]; exact c_encT x he hc hg hr h
theorem encB_le (x : Sk) : (encB x).length ≤ 18 + x.regs.length + 9 * (1 + x.e.length + x.c.length + 2 * x.g.length) := by
  have h1 := (putL_len9 [U x.kind, U x.level]).2
  have h2 := (putL_len9 (numS x)).2
  have h3 := numS_len x
  simp only [List.length_cons, List.length_nil] at h1
  unfold encB; split
  · rw [encS, List.length_append, List.length_append]; omega
  · simp
/-- the sketch of bytes -/
def decR (s : List UInt8) : Sk × List UInt8 × Int :=
  match skR s with
  | .more => (sk0.sk, s, 20)
  | .bad => (sk0.sk, s, 110)
  | .ok x q => if encE x = 0 ∧ encB x ++ q = s then (x, q, 0) else (sk0.sk, s, 110)
theorem binsV_len (a : Int) (l : List UInt64) : 2 * (binsV a l).length ≤ l.length := by
  match l with
  | [] => simp [binsV]
  | [x] => simp [binsV]
  | x :: y :: l => have := binsV_len (min (a + min (x.toNat : Int) 1000000) 1000000) l; simp only [binsV, List.length_cons]; omega
theorem skR_len {s : List UInt8} {x : Sk} {q : List UInt8} (h : skR s = .ok x q) : x.e.length ≤ 100 ∧ x.c.length ≤ 100 ∧ x.g.length ≤ 1000 ∧ x.regs.length ≤ s.length ∧ q.length ≤ s.length := by
  unfold skR at h
  split at h
  · cases h
  · cases h
  · rename_i n r hn
    have l1 := numR_len hn
    split at h
    · cases h
    · split at h
      · cases h
      · cases h
      · rename_i g r2 hm
        have l2 := numR_len hm
        unfold takeR at h
        split at h
        · split at h
          · split at h
            · cases h
            · cases h
            · rename_i l q' hc
              have l3 := cntR_len hc (by decide)
              rw [Int.natCast_one] at l3
              cases h
              refine ⟨?_, Nat.zero_le _, Nat.zero_le _, Nat.zero_le _, ?_⟩
              · show (sumsU 0 l).length ≤ 100; rw [sumsU_len]; omega
              · omega
          · split at h
            · cases h
            · cases h
              refine ⟨Nat.zero_le _, Nat.zero_le _, Nat.zero_le _, ?_, ?_⟩
              · show (r2.take _).length ≤ _; exact Nat.le_trans (List.length_take_le' _ _) (by omega)
              · rw [List.length_drop]; exact Nat.le_trans (Nat.sub_le _ _) (by omega)
        · split at h
          · split at h
            · cases h
            · cases h
            · rename_i l q' hl
              have l3 := listR_len hl
              have l4 := Nat.div_le_self 32 (2 ^ (g.toNat : Int).toNat)
              cases h
              exact ⟨Nat.zero_le _, by show l.length ≤ 100; rw [l3.1]; exact Nat.le_trans (Nat.mul_le_mul_left 2 l4) (by decide), Nat.zero_le _, Nat.zero_le _, by omega⟩
          · split at h
            · cases h
            · cases h
            · rename_i l q' hc
              have l3 := cntR_len hc (by decide)
              have l4 := binsV_len 0 l
              cases h
              exact ⟨Nat.zero_le _, Nat.zero_le _, by show (binsV 0 l).length ≤ 1000; omega, Nat.zero_le _, by omega⟩
theorem c_skX (b : Nat) (s : List UInt8) (e : Errs) (g : RR Sk) (hg : skR s = g) (hs : s.length ≤ 1000000) : Ct Tryz.prog 21 [(b, .cells [.str s, .int .i64 0, .int .i64 0, .raw (.slice none 0 0), .int .i64 0, .str [], .int .i64 0, .int .i64 0, .raw (.slice none 0 0), .int .i64 0, .raw (.slice none 0 0)] 59)] [.own 0 b 0] (gAll e)
    (Rs (fun _ : List UInt8 × SkV => g.err e) (fun z => g.bl b z) (fun z => g.fs z) (fun z => ∀ x q, g = .ok x q → z.1 = q ∧ z.2.sk = x)) := by
  subst hg; exact c_sk b s e hs

theorem c_size (x : SkV) (he : x.e.l.length ≤ 100000) (hc : x.c.l.length ≤ 100000) (hg : x.g.l.length ≤ 100000) (hr : x.regs.length ≤ 1000000) : Ct Tryz.prog 13 [] [x.sv] x.fs (Rv (.int .i64 (encB x.sk).length)) := by
  refine Ct.of Tryz.func13 rfl (n := 12) rfl rfl rfl ?_
  conv => whnf
  repeat' first
    | (refine Ob.mk rfl ?_; conv => whnf)
    | (refine Nx.mk ?_; conv => whnf)
    | (intro bk; conv => whnf)
    | (show CallK _ _ 8 _ _ _ _; refine CallK.rv (c_enc x he hc hg hr) (by repeat' (first | exact trivial | exact .head _ | apply List.Mem.tail | apply And.intro)) (Nx.go ?_))
    | (show RdB _ _ _; refine RdB.mk' (by repeat (first | exact .head _ | apply List.Mem.tail)) (Nx.go ?_))
    | (refine Ob.mk (by omega) ?_; conv => whnf)
  rfl

theorem c_ctM (e : Errs) : Ct Tryz.prog 22 [] [er e.cm] (gAll e) (Rv (.int .i64 20)) := by
  refine Ct.of Tryz.func22 rfl (n := 11) rfl rfl rfl ?_
  conv => whnf
  repeat' first
    | (refine BR.yesK (decide_eq_true rfl) ?_; conv => whnf)
    | (refine Ob.mk rfl ?_; conv => whnf)
    | (refine Nx.mk ?_; conv => whnf)
    | (refine BR.yes ?_; conv => whnf)
    | (refine BR.no ?_; conv => whnf)
    | (show CallK _ _ 36 _ _ _ _; refine CallK.rv (c_is e.cm e.cm e.tm e.tm) (by repeat' (first | exact trivial | exact .head _ | apply List.Mem.tail | apply And.intro)) (Nx.go ?_))
    | (show RdB _ _ _; refine RdB.mk' (by repeat (first | exact .head _ | apply List.Mem.tail)) (Nx.go ?_))
    | (refine Ob.mk (by omega) ?_; conv => whnf)
    | (refine BR.mk (fun h => ?_) (fun h => ?_) <;> (first | rw [Bool.not_eq_true'] at h | rw [Bool.not_eq_false'] at h | skip) <;> (try rw [h]) <;> (first | replace h := of_decide_eq_true h | replace h := of_decide_eq_false h | replace h := eq_of_beq h | replace h := bne_iff_ne.1 h | replace h := beq_eq_false_iff_ne.1 h | replace h := bne_eq_false_iff_eq.1 h | skip) <;> conv => whnf)
  rfl

theorem c_ctN (e : Errs) (hne : e.cm ≠ e.cn) : Ct Tryz.prog 22 [] [er e.cn] (gAll e) (Rv (.int .i64 110)) := by
  refine Ct.of Tryz.func22 rfl (n := 11) rfl rfl rfl ?_
  conv => whnf
  repeat' first
    | (show CallK _ _ _ [er e.cn, er e.cm] _ _ _; refine CallK.rv (c_is e.cn e.cm e.tn e.tm) (by repeat' (first | exact trivial | exact .head _ | apply List.Mem.tail | apply And.intro)) (Nx.go ?_))
    | (show CallK _ _ _ [er e.cn, er e.cn] _ _ _; refine CallK.rv (c_is e.cn e.cn e.tn e.tn) (by repeat' (first | exact trivial | exact .head _ | apply List.Mem.tail | apply And.intro)) (Nx.go ?_))
    | (refine BR.yesK (decide_eq_true rfl) ?_; conv => whnf)
    | (refine BR.noK (decide_eq_false (fun h => hne h.symm)) ?_; conv => whnf)
    | (refine Ob.mk rfl ?_; conv => whnf)
    | (refine Nx.mk ?_; conv => whnf)
    | (refine BR.yes ?_; conv => whnf)
    | (refine BR.no ?_; conv => whnf)
    | (show RdB _ _ _; refine RdB.mk' (by repeat (first | exact .head _ | apply List.Mem.tail)) (Nx.go ?_))
    | (refine Ob.mk (by omega) ?_; conv => whnf)
    | (refine BR.mk (fun h => ?_) (fun h => ?_) <;> (first | rw [Bool.not_eq_true'] at h | rw [Bool.not_eq_false'] at h | skip) <;> (try rw [h]) <;> (first | replace h := of_decide_eq_true h | replace h := of_decide_eq_false h | replace h := eq_of_beq h | replace h := bne_iff_ne.1 h | replace h := beq_eq_false_iff_ne.1 h | replace h := bne_eq_false_iff_eq.1 h | skip) <;> conv => whnf)
  rfl

theorem decR_m {s : List UInt8} (h : skR s = .more) : decR s = (sk0.sk, s, 20) := by simp only [decR, h]
theorem decR_b {s : List UInt8} (h : skR s = .bad) : decR s = (sk0.sk, s, 110) := by simp only [decR, h]
theorem decR_n {s : List UInt8} {x : Sk} {q : List UInt8} (h : skR s = .ok x q) (h1 : ¬ (encE x = 0 ∧ encB x ++ q = s)) : decR s = (sk0.sk, s, 110) := by simp only [decR, h, if_neg h1]
theorem decR_o {s : List UInt8} {x : Sk} {q : List UInt8} (h : skR s = .ok x q) (h1 : encE x = 0 ∧ encB x ++ q = s) : decR s = (x, q, 0) := by simp only [decR, h, if_pos h1]

theorem c_dec (s : List UInt8) (e : Errs) (hs : s.length ≤ 1000000) (hne : e.cm ≠ e.cn) : Ct Tryz.prog 9 [] [.str s] (gAll e) (Rs (fun z : SkV => .tup [z.sv, .str (decR s).2.1, .int .i64 (decR s).2.2]) (fun _ => []) SkV.fs (fun z => z.sk = (decR s).1)) := by
  refine Ct.post (Ct.of Tryz.func9 rfl (n := 55) rfl rfl rfl ?_)
  conv => whnf
  repeat' first
    | (show Ob ((encB z.2.sk).length + z.1.length ≤ _) _; refine Ob.mk (by have hx := skR_len hk; have h1 := encB_le x; rw [(hz _ _ rfl).1, (hz _ _ rfl).2]; omega) ?_; conv => whnf)
    | (refine Ob.mk rfl ?_; conv => whnf)
    | (refine Nx.mk ?_; conv => whnf)
    | (refine BR.yes ?_; conv => whnf)
    | (refine BR.no ?_; conv => whnf)
    | (intro bk; conv => whnf)
    | (show CallK _ _ 21 _ _ _ _; refine CallK.lendS [1] (c_skX bk s e .more hk hs) ⟨rfl, trivial⟩ rfl rfl rfl (by repeat' (first | exact trivial | exact .head _ | apply List.Mem.tail | apply And.intro)) (fun z hz => ⟨rfl, Nx.go ?_⟩))
    | (show CallK _ _ 21 _ _ _ _; refine CallK.lendS [1] (c_skX bk s e .bad hk hs) ⟨rfl, trivial⟩ rfl rfl rfl (by repeat' (first | exact trivial | exact .head _ | apply List.Mem.tail | apply And.intro)) (fun z hz => ⟨rfl, Nx.go ?_⟩))
    | (show CallK _ _ 21 _ _ _ _; refine CallK.lendS [1] (c_skX bk s e (.ok x q) hk hs) ⟨rfl, trivial⟩ rfl rfl rfl (by repeat' (first | exact trivial | exact .head _ | apply List.Mem.tail | apply And.intro)) (fun z hz => ⟨rfl, Nx.go ?_⟩))
    | (show CallK _ _ 22 _ _ _ _; refine CallK.rv (c_ctM e) (by repeat' (first | exact trivial | exact .head _ | apply List.Mem.tail | apply And.intro)) (Nx.go ?_))
    | (show CallK _ _ 22 _ _ _ _; refine CallK.rv (c_ctN e hne) (by repeat' (first | exact trivial | exact .head _ | apply List.Mem.tail | apply And.intro)) (Nx.go ?_))
    | (show CallK _ _ 8 _ _ _ _; refine CallK.rv (c_enc z.2 (by have hx := skR_len hk; have h2 := (hz _ _ rfl).2; have h3 := congrArg (fun y : Sk => y.e.length) h2; simp only [SkV.sk] at h3; omega) (by have hx := skR_len hk; have h2 := (hz _ _ rfl).2; have h3 := congrArg (fun y : Sk => y.c.length) h2; simp only [SkV.sk] at h3; omega) (by have hx := skR_len hk; have h2 := (hz _ _ rfl).2; have h3 := congrArg (fun y : Sk => y.g.length) h2; simp only [SkV.sk] at h3; omega) (by have hx := skR_len hk; have h2 := (hz _ _ rfl).2; have h3 := congrArg (fun y : Sk => y.regs.length) h2; simp only [SkV.sk] at h3; omega)) (by repeat' (first | exact trivial | exact .head _ | apply List.Mem.tail | apply And.intro)) (Nx.go ?_))
    | (show CallK _ _ 21 _ _ _ _; rcases hk : skR s with _ | _ | ⟨x, q⟩)
    | (show Post _ _ _ _ _; have hr : decR s = (sk0.sk, s, 20) := decR_m hk; exact Rs.post sk0 (by rw [hr]; rfl) ((Imp.nilF encU 1).trans ((Imp.nilF encBin 2).trans ((Imp.pure (p := ([] : List UInt8).length ≤ 9223372036854775807) (by decide)).trans (Imp.fs (by repeat' (first | exact trivial | exact .head _ | apply List.Mem.tail | apply And.intro)))))) (by rw [hr]))
    | (show Post _ _ _ _ _; have hr : decR s = (sk0.sk, s, 110) := decR_b hk; exact Rs.post sk0 (by rw [hr]; rfl) ((Imp.nilF encU 1).trans ((Imp.nilF encBin 2).trans ((Imp.pure (p := ([] : List UInt8).length ≤ 9223372036854775807) (by decide)).trans (Imp.fs (by repeat' (first | exact trivial | exact .head _ | apply List.Mem.tail | apply And.intro)))))) (by rw [hr]))
    | (show Post _ _ _ _ _; have hr : decR s = (sk0.sk, s, 110) := (decR_n hk (fun c => h (by rw [(hz _ _ rfl).2]; exact c.1))); exact Rs.post sk0 (by rw [hr]; rfl) ((Imp.nilF encU 1).trans ((Imp.nilF encBin 2).trans ((Imp.pure (p := ([] : List UInt8).length ≤ 9223372036854775807) (by decide)).trans (Imp.fs (by repeat' (first | exact trivial | exact .head _ | apply List.Mem.tail | apply And.intro)))))) (by rw [hr]))
    | (show Post _ _ _ _ _; have hr : decR s = (sk0.sk, s, 110) := (decR_n hk (fun c => h (by rw [(hz _ _ rfl).1, (hz _ _ rfl).2]; exact c.2))); exact Rs.post sk0 (by rw [hr]; rfl) ((Imp.nilF encU 1).trans ((Imp.nilF encBin 2).trans ((Imp.pure (p := ([] : List UInt8).length ≤ 9223372036854775807) (by decide)).trans (Imp.fs (by repeat' (first | exact trivial | exact .head _ | apply List.Mem.tail | apply And.intro)))))) (by rw [hr]))
    | (show Post _ _ _ _ _; obtain ⟨z1, z2⟩ := hz _ _ rfl; have hr : decR s = (x, q, 0) := decR_o hk (by rw [← z1, ← z2]; exact ⟨by assumption, by assumption⟩); exact Rs.post z.2 (by rw [hr, ← z1]; rfl) (Imp.fs (by repeat' (first | exact trivial | exact .head _ | apply List.Mem.tail | apply And.intro))) (by rw [hr]; exact z2))
    | (refine SemC.draw 8 [0] [.t 0, .t 1, .t 2, .t 3, .m 4, .m 5, .m 6, .m 7, .m 8, .w 9, .t 10, .t 11] (by kernel_rfl) (by kernel_rfl) ?_; conv => whnf)
    | (show RdB _ _ _; refine RdB.mk' (by repeat (first | exact .head _ | apply List.Mem.tail)) (Nx.go ?_))
    | (refine AR.i64 (by omega) ?_; conv => whnf)
    | (refine AR.u64 (by omega) ?_; conv => whnf)
    | (refine AR.u8 (by omega) ?_; conv => whnf)
    | (refine Ob.mk (by omega) ?_; conv => whnf)
    | (refine BR.mk (fun h => ?_) (fun h => ?_) <;> (first | rw [Bool.not_eq_true'] at h | rw [Bool.not_eq_false'] at h | skip) <;> (try rw [h]) <;> (first | replace h := of_decide_eq_true h | replace h := of_decide_eq_false h | replace h := eq_of_beq h | replace h := bne_iff_ne.1 h | replace h := beq_eq_false_iff_ne.1 h | replace h := bne_eq_false_iff_eq.1 h | skip) <;> conv => whnf)
end Go.Proofs.YtpdpajafaifcjaaGreatDoor

/- law11 -/
namespace Go.Proofs.YtpdpajafaifcjaaGreatDoor
open Go.Proofs.YtpdpajafaifcjaaGreatDoor.W
set_option maxRecDepth 100000
set_option linter.unusedVariables false
theorem ct_facts {P : Program} {f : FuncId} {bs : LBs} {args : List SV} {Φ Φ0 : Facts} {R : SV → LBs → Facts → Prop} (h : Ct P f bs args Φ R) (hi : ∀ A w, Hold Φ0 A w → Hold Φ A w) : Ct P f bs args Φ0 R :=
  ⟨fun M A w hr => h.h M A w ⟨hr.st, hi _ _ hr.hold, hr.mu, hr.muM, hr.amb⟩⟩
theorem nil_holds {α : Type} (enc : α → List SV) (k : Nat) (A : Nat → Prop) (w : World) : ((Sli.mk ([] : List α) none 0).f enc k).F A w := ⟨by simp, rfl, ⟨by simp [flat], Nat.le_refl _, Nat.zero_le _, fun _ => rfl, .inl rfl⟩⟩
def shownS : Sk := ⟨1, 0, [3, 300], 0, [], 0, 0, [], 0, []⟩
theorem shown_enc : encB shownS = [1, 0, 2, 3, 241, 57] ∧ encE shownS = 0 := by constructor <;> kernel_rfl
theorem shown_4 : skR [4] = .bad := by kernel_rfl
theorem shown_102 : skR [1, 0, 2] = .more := by kernel_rfl
theorem c_encS (y : Sli UInt64) (hy : y.l = [3, 300]) : Ct Tryz.prog 8 [] [(SkV.mk 1 0 y 0 [] 0 0 nilU 0 nilB).sv] [y.f encU 1] (Rv (.tup [.str [1, 0, 2, 3, 241, 57], .int .i64 0])) := by
  have h := c_enc (SkV.mk 1 0 y 0 [] 0 0 nilU 0 nilB) (by show y.l.length ≤ _; rw [hy]; decide) (Nat.zero_le _) (Nat.zero_le _) (Nat.zero_le _)
  have e : (SkV.mk 1 0 y 0 [] 0 0 nilU 0 nilB).sk = shownS := by rw [SkV.sk, hy]; rfl
  rw [e, shown_enc.1, shown_enc.2] at h
  exact ct_facts h fun A w hh => Hold.cons (hh _ (List.Mem.head _)) (Hold.cons (nil_holds encU 1 A w) (Hold.cons (nil_holds encBin 2 A w) (Hold.cons (show ([] : List UInt8).length ≤ 9223372036854775807 by decide) Hold.nil)))
theorem c_decX (s : List UInt8) (c : Int) (e : Errs) (hs : s.length ≤ 1000000) (hne : e.cm ≠ e.cn) (h : decR s = (sk0.sk, s, c)) : Ct Tryz.prog 9 [] [.str s] (gAll e) (Rs (fun z : SkV => .tup [z.sv, .str s, .int .i64 c]) (fun _ => []) SkV.fs (fun _ => True)) := by
  have h2 := c_dec s e hs hne
  rw [h] at h2
  exact ct_imp h2 fun v lb Φ ⟨z, h3, h4, h5, _⟩ => ⟨z, h3, h4, h5, trivial⟩
/-- what a sketch costs -/
def costS (x : Sk) : Int := 16 + (if x.kind = 1 then (if x.level = 0 then 8 * (x.e.length : Int) else (x.regs.length : Int)) else if x.kind = 2 then 8 * (x.c.length : Int) else 16 * (x.g.length : Int))
theorem c_cost (x : SkV) (he : x.e.l.length ≤ 100000) (hc : x.c.l.length ≤ 100000) (hg : x.g.l.length ≤ 100000) (hr : x.regs.length ≤ 1000000) (h0 : rightS x.sk = true) : Ct Tryz.prog 14 [] [x.sv] x.fs (Rv (.int .i64 (costS x.sk))) := by
  have hk : x.kind = 1 ∨ x.kind = 2 ∨ x.kind = 3 := by
    have h := h0
    simp only [rightS, Bool.and_eq_true, decide_eq_true_eq] at h
    exact h.1.1.1
  have e : costS x.sk = 16 + (if x.kind = 1 then (if x.level = 0 then 8 * (x.e.l.length : Int) else (x.regs.length : Int)) else if x.kind = 2 then 8 * (x.c.l.length : Int) else 16 * (x.g.l.length : Int)) := rfl
  rcases hk with hk | hk | hk
  · by_cases hz : x.level = 0
    · rw [e, if_pos hk, if_pos hz]; exact c_costS x (by omega) (by omega) (by omega) (by omega) h0 hk hz
    · rw [e, if_pos hk, if_neg hz]; exact c_costR x (by omega) (by omega) (by omega) (by omega) h0 hk hz hr
  · rw [e, if_neg (by omega), if_pos hk]; exact c_costC x (by omega) (by omega) (by omega) (by omega) h0 hk
  · rw [e, if_neg (by omega), if_neg (by omega)]; exact c_costH x (by omega) (by omega) (by omega) (by omega) h0 hk
theorem few_len {x y : Sk} (h : y = x.few) : y.e.length ≤ 70 ∧ y.regs.length ≤ 260 ∧ y.c.length ≤ 200 ∧ y.g.length ≤ 300 := by
  subst h
  refine ⟨?_, ?_, ?_, ?_⟩ <;> exact List.length_take_le _ _

theorem c_shown (e : Errs) (hne : e.cm ≠ e.cn) : Ct Tryz.prog 6 [] [] (gAll e) (Rv (.bool true)) := by
  refine Ct.of Tryz.func6 rfl (n := 42) rfl rfl rfl ?_
  conv => whnf
  repeat' first
    | (show SemO _ _ (.buildSlice _ _ #[(0, _), (1, _)]) _ _ _ _ _; refine SemO.lit ?_; (conv => whnf); show BsV _ _ _ _ _; refine BsV.s [3, 300] (by repeat (first | exact .nil | refine .cons (by first | rfl | exact encB_of (by omega) | exact encU_U (by omega)) ?_)) (fun xo _ => okU xo) (fun ys hys => Nx.go ?_))
    | (refine Ob.mk rfl ?_; conv => whnf)
    | (refine Nx.mk ?_; conv => whnf)
    | (refine BR.yes ?_; conv => whnf)
    | (refine BR.no ?_; conv => whnf)
    | (intro bk; conv => whnf)
    | (show CallK _ _ 8 _ _ _ _; refine CallK.rv (c_encS ys hys) (by repeat' (first | exact trivial | exact .head _ | apply List.Mem.tail | apply And.intro)) (Nx.go ?_))
    | (show CallK _ _ 9 _ _ _ _; refine CallK.rf (c_decX [4] 110 e (by decide) hne (decR_b shown_4)) (by repeat' (first | exact trivial | exact .head _ | apply List.Mem.tail | apply And.intro)) (fun z hz => Nx.go ?_))
    | (show CallK _ _ 9 _ _ _ _; refine CallK.rf (c_decX [1, 0, 2] 20 e (by decide) hne (decR_m shown_102)) (by repeat' (first | exact trivial | exact .head _ | apply List.Mem.tail | apply And.intro)) (fun z2 hz2 => Nx.go ?_))
    | (show RdB _ _ _; refine RdB.mk' (by repeat (first | exact .head _ | apply List.Mem.tail)) (Nx.go ?_))
    | (refine AR.i64 (by omega) ?_; conv => whnf)
    | (refine AR.u64 (by omega) ?_; conv => whnf)
    | (refine AR.u8 (by omega) ?_; conv => whnf)
    | (refine Ob.mk (by omega) ?_; conv => whnf)
    | (refine BR.mk (fun h => ?_) (fun h => ?_) <;> (first | rw [Bool.not_eq_true'] at h | rw [Bool.not_eq_false'] at h | skip) <;> (try rw [h]) <;> (first | replace h := of_decide_eq_true h | replace h := of_decide_eq_false h | replace h := eq_of_beq h | replace h := bne_iff_ne.1 h | replace h := beq_eq_false_iff_ne.1 h | replace h := bne_eq_false_iff_eq.1 h | skip) <;> conv => whnf)
  rfl

theorem c_cut (s : List UInt8) : Ct Tryz.prog 10 [] [.str s] [] (Rv (.str (s.take 2000))) := by
  refine Ct.of Tryz.func10 rfl (n := 8) rfl rfl rfl ?_
  conv => whnf
  repeat' first
    | (refine Ob.mk rfl ?_; conv => whnf)
    | (refine Nx.mk ?_; conv => whnf)
    | (refine Idx.is (min s.length 2000) (by omega) ?_; conv => whnf)
    | (refine Idx.nat ?_; conv => whnf)
    | (refine Idx.is _ rfl ?_; conv => whnf)
    | (show SlW _ _ _ _ _ _ _ _ _; refine SlW.s (by repeat (first | exact .head _ | apply List.Mem.tail)) (by omega) (fun ys hys hcs => Nx.go ?_))
    | (refine Ob.mk (by omega) ?_; conv => whnf)
  grind [resS]
end Go.Proofs.YtpdpajafaifcjaaGreatDoor

/- sizes -/
namespace Go.Proofs.YtpdpajafaifcjaaGreatDoor
open Go.Proofs.YtpdpajafaifcjaaGreatDoor.W
set_option maxRecDepth 100000
set_option linter.unusedVariables false
theorem two_bytes {k l : Int} (hk : 0 ≤ k ∧ k ≤ 240) (hl : 0 ≤ l ∧ l ≤ 240) : (putL [U k, U l]).length = 2 := by
  have h1 := U_is (e := k) (by omega)
  have h2 := U_is (e := l) (by omega)
  have e : ∀ n : Nat, n ≤ 240 → (putN n).length = 1 := fun n hn => by rw [putN, if_pos hn]; rfl
  show (putN (U k).toNat ++ (putN (U l).toNat ++ [])).length = 2
  rw [List.length_append, List.length_append, e _ (by omega), e _ (by omega)]; rfl
theorem rightS_split {x : Sk} (h : rightS x = true) : (x.kind = 1 ∧ x.level = 0 ∧ x.regs = [] ∧ x.c = [] ∧ x.g = [] ∧ exactRight x.e = true) ∨ (x.kind = 1 ∧ 1 ≤ x.level ∧ x.e = [] ∧ x.c = [] ∧ x.g = [] ∧ hllRight x.bits x.regs = true ∧ x.bits = 8 - x.level) ∨
    (x.kind = 2 ∧ x.e = [] ∧ x.regs = [] ∧ x.g = [] ∧ cmsRight x.rows x.cols x.c = true) ∨ (x.kind = 3 ∧ x.e = [] ∧ x.regs = [] ∧ x.c = [] ∧ histRight x.fine x.g = true) := by
  simp only [rightS, Bool.and_eq_true, decide_eq_true_eq] at h
  obtain ⟨⟨⟨h1, h2⟩, h3⟩, h4⟩ := h
  rcases h1 with h1 | h1 | h1
  · by_cases hz : x.level = 0
    · rw [okS, if_pos h1, if_pos hz] at h3
      rw [endS, if_pos h1, if_pos hz] at h4
      exact .inl ⟨h1, hz, (congrArg Sk.regs h4).symm, (congrArg Sk.c h4).symm, (congrArg Sk.g h4).symm, h3⟩
    · rw [okS, if_pos h1, if_neg hz] at h3
      rw [endS, if_pos h1, if_neg hz] at h4
      simp only [Bool.and_eq_true, decide_eq_true_eq] at h3
      exact .inr (.inl ⟨h1, by omega, (congrArg Sk.e h4).symm, (congrArg Sk.c h4).symm, (congrArg Sk.g h4).symm, h3.1, h3.2⟩)
  · rw [okS, if_neg (by omega), if_pos h1] at h3
    rw [endS, if_neg (by omega), if_pos h1] at h4
    simp only [Bool.and_eq_true, decide_eq_true_eq] at h3
    exact .inr (.inr (.inl ⟨h1, (congrArg Sk.e h4).symm, (congrArg Sk.regs h4).symm, (congrArg Sk.g h4).symm, h3.1.1⟩))
  · rw [okS, if_neg (by omega), if_neg (by omega)] at h3
    rw [endS, if_neg (by omega), if_neg (by omega)] at h4
    simp only [Bool.and_eq_true, decide_eq_true_eq] at h3
    exact .inr (.inr (.inr ⟨h1, (congrArg Sk.e h4).symm, (congrArg Sk.regs h4).symm, (congrArg Sk.c h4).symm, h3.1⟩))
theorem sizes_law {x : Sk} (h : rightS x = true) : (3 : Int) ≤ (encB x).length ∧ 2 * ((encB x).length : Int) ≤ 3 * costS x := by
  have hat := (rightS_at h).1
  have h2 := two_bytes (k := x.kind) (l := x.level) (by omega) (by omega)
  have h9 := putL_len9 (numS x)
  have hn : (numS x).length = (headN x).length + x.e.length + x.c.length + 2 * x.g.length := by
    rw [numS, List.length_append, List.length_append, List.length_append, difU_len, binN_len]
  have hL : (encB x).length = 2 + x.regs.length + (putL (numS x)).length := by
    rw [encB, if_pos h, encS, List.length_append, List.length_append, h2]
  rw [hL, costS]
  rcases rightS_split h with ⟨k, l, r, c, g, _⟩ | ⟨k, l, e, c, g, hr, hb⟩ | ⟨k, e, r, g, hc⟩ | ⟨k, e, r, c, _⟩
  · have hh : (headN x).length = 1 := by rw [headN, if_pos ⟨k, l⟩]; rfl
    rw [if_pos k, if_pos l, r]
    rw [hh, c, g] at hn
    simp only [List.length_nil] at *
    omega
  · have hh : (headN x).length = 0 := by rw [headN, if_neg (by omega), if_neg (by omega)]; rfl
    rw [if_pos k, if_neg (by omega)]
    rw [hh, e, c, g] at hn
    simp only [hllRight, Bool.and_eq_true, decide_eq_true_eq] at hr
    have hp : (2 : Int) ^ 3 ≤ 2 ^ x.bits.toNat := by
      have := Nat.pow_le_pow_right (n := 2) (by decide) (show 3 ≤ x.bits.toNat by omega)
      exact_mod_cast this
    simp only [List.length_nil] at *
    omega
  · have hh : (headN x).length = 0 := by rw [headN, if_neg (by omega), if_neg (by omega)]; rfl
    rw [if_neg (by omega), if_pos k, r]
    rw [hh, e, g] at hn
    simp only [cmsRight, Bool.and_eq_true, decide_eq_true_eq] at hc
    have := isSize_mul hc.1
    simp only [List.length_nil] at *
    omega
  · have hh : (headN x).length = 1 := by rw [headN, if_neg (by omega), if_pos k]; rfl
    rw [if_neg (by omega), if_neg (by omega), r]
    rw [hh, e, c] at hn
    simp only [List.length_nil] at *
    omega
theorem few_enc {x y : Sk} (h : y = x.few) : (encB y).length ≤ 20000 ∧ 0 ≤ costS y ∧ costS y ≤ 10000 := by
  have h1 := few_len h
  have h2 := encB_le y
  refine ⟨by omega, ?_, ?_⟩ <;> (unfold costS; split <;> (try split) <;> omega)
theorem enc_none {x : Sk} (h : rightS x = false) : encB x = [] := by rw [encB, h]; rfl

theorem c_sizes (x : SkV) (e : Errs) (hne : e.cm ≠ e.cn) : Ct Tryz.prog 5 [] [x.sv] (x.fs ++ gAll e) (Rv (.bool true)) := by
  refine Ct.of Tryz.func5 rfl (n := 31) rfl rfl rfl ?_
  conv => whnf
  repeat' first
    | (show AR .i64 (2 * ((encB y.sk).length : Int)) _; refine AR.i64 (by have := few_enc hy; omega) ?_; conv => whnf)
    | (show AR .i64 (3 * costS y.sk) _; refine AR.i64 (by have := few_enc hy; omega) ?_; conv => whnf)
    | (refine Ob.mk rfl ?_; conv => whnf)
    | (refine Nx.mk ?_; conv => whnf)
    | (refine BR.yes ?_; conv => whnf)
    | (refine BR.no ?_; conv => whnf)
    | (intro bk; conv => whnf)
    | (show CallK _ _ 6 _ _ _ _; refine CallK.rv (c_shown e hne) (by repeat' (first | exact trivial | exact .head _ | apply List.Mem.tail | apply And.intro)) (Nx.go ?_))
    | (show CallK _ _ 7 _ _ _ _; refine CallK.rf (c_few10 x) (by repeat' (first | exact trivial | exact .head _ | apply List.Mem.tail | apply And.intro)) (fun y hy => Nx.go ?_))
    | (show CallK _ _ 13 _ _ _ _; refine CallK.rv (c_size y (Nat.le_trans (show y.e.l.length ≤ 70 from (few_len hy).1) (by decide)) (Nat.le_trans (show y.c.l.length ≤ 200 from (few_len hy).2.2.1) (by decide)) (Nat.le_trans (show y.g.l.length ≤ 300 from (few_len hy).2.2.2) (by decide)) (Nat.le_trans (show y.regs.length ≤ 260 from (few_len hy).2.1) (by decide))) (by repeat' (first | exact trivial | exact .head _ | apply List.Mem.tail | apply And.intro)) (Nx.go ?_))
    | (show CallK _ _ 12 _ _ _ _; refine CallK.rv (c_rightX y (Nat.le_trans (show y.e.l.length ≤ 70 from (few_len hy).1) (by decide)) (Nat.le_trans (show y.c.l.length ≤ 200 from (few_len hy).2.2.1) (by decide)) (Nat.le_trans (show y.g.l.length ≤ 300 from (few_len hy).2.2.2) (by decide)) (Nat.le_trans (show y.regs.length ≤ 260 from (few_len hy).2.1) (by decide)) h0) (by repeat' (first | exact trivial | exact .head _ | apply List.Mem.tail | apply And.intro)) (Nx.go ?_))
    | (show CallK _ _ 14 _ _ _ _; refine CallK.rv (c_cost y (Nat.le_trans (show y.e.l.length ≤ 70 from (few_len hy).1) (by decide)) (Nat.le_trans (show y.c.l.length ≤ 200 from (few_len hy).2.2.1) (by decide)) (Nat.le_trans (show y.g.l.length ≤ 300 from (few_len hy).2.2.2) (by decide)) (Nat.le_trans (show y.regs.length ≤ 260 from (few_len hy).2.1) (by decide)) h0) (by repeat' (first | exact trivial | exact .head _ | apply List.Mem.tail | apply And.intro)) (Nx.go ?_))
    | (show CallK _ _ 12 _ _ _ _; rcases h0 : rightS y.sk)
    | (show RdB _ _ _; refine RdB.mk' (by repeat (first | exact .head _ | apply List.Mem.tail)) (Nx.go ?_))
    | (refine AR.i64 (by omega) ?_; conv => whnf)
    | (refine AR.u64 (by omega) ?_; conv => whnf)
    | (refine AR.u8 (by omega) ?_; conv => whnf)
    | (refine Ob.mk (by omega) ?_; conv => whnf)
    | (refine BR.mk (fun h => ?_) (fun h => ?_) <;> (first | rw [Bool.not_eq_true'] at h | rw [Bool.not_eq_false'] at h | skip) <;> (try rw [h]) <;> (first | replace h := of_decide_eq_true h | replace h := of_decide_eq_false h | replace h := eq_of_beq h | replace h := bne_iff_ne.1 h | replace h := beq_eq_false_iff_ne.1 h | replace h := bne_eq_false_iff_eq.1 h | skip) <;> conv => whnf)
  · rw [enc_none h0]; rfl
  · have := sizes_law h0; simp only [resS, SV.bool.injEq, decide_eq_true_eq]; exact this.2
  · exact absurd (sizes_law h0).1 h
end Go.Proofs.YtpdpajafaifcjaaGreatDoor

/- lift -/
namespace Go.Proofs.YtpdpajafaifcjaaGreatDoor
open Go.Proofs.YtpdpajafaifcjaaGreatDoor.W
set_option maxRecDepth 100000
set_option linter.unusedVariables false
open Go.ChangeShapes Go.WideShapes Go.RowKit
theorem Tryz.own : ownKnob Tryz.prog.godebug = none := by kernel_rfl
theorem Tryz.kids : Kids Tryz.prog (· < Tryz.prog.types.size) := kids_rows (by kernel_rfl) (by kernel_rfl)
theorem Tryz.full : ∀ t e, t < Tryz.prog.types.size → Tryz.prog.underlying t = some (.slice e) → 0 < Tryz.prog.cellsOf e := slices_full_of Tryz.prog (by kernel_rfl)

theorem list10 {α : Type} {l : List α} (h : l.length = 10) : ∃ c0 c1 c2 c3 c4 c5 c6 c7 c8 c9, l = [c0, c1, c2, c3, c4, c5, c6, c7, c8, c9] := by
  match l, h with
  | [c0, c1, c2, c3, c4, c5, c6, c7, c8, c9], _ => exact ⟨c0, c1, c2, c3, c4, c5, c6, c7, c8, c9, rfl⟩
theorem xs_at {α : Type} {xs : List α} {n i : Nat} (h : xs.length = n) (hi : i < n) : ∃ y, xs[i]? = some y := ⟨_, List.getElem?_eq_getElem (by omega)⟩
set_option maxHeartbeats 4000000 in
/-- a sketch that came in -/
theorem open_sk {H : Type} {enc : TypeId × Value → H} {w : World} {sp : Nat → Bool} {hd : Bool} {fuel : Nat} {cs : List Value} {y : DataW H × List MemPlace} (h : DataW.trod enc Tryz.prog w 0 sp hd fuel 33 cs = some y) :
    ∃ x : SkV, cs = dens x.cs ∧ Hold x.fs (Old w) w := by
  have c1 : Tryz.prog.cellsOf 3 = 1 := by kernel_rfl
  have cS : Tryz.prog.cellsOf 9 = 1 := by kernel_rfl
  have cU : Tryz.prog.cellsOf 22 = 1 := by kernel_rfl
  have cB : Tryz.prog.cellsOf 29 = 1 := by kernel_rfl
  have cE : Tryz.prog.cellsOf 24 = 1 := by kernel_rfl
  have cH : Tryz.prog.cellsOf 26 = 2 := by kernel_rfl
  have cC : Tryz.prog.cellsOf 28 = 3 := by kernel_rfl
  have cG : Tryz.prog.cellsOf 31 = 2 := by kernel_rfl
  have c64 : Tryz.prog.cellsOf 46 = 1 := by kernel_rfl
  obtain ⟨xs, n, _, _, hl, hlen, hf⟩ := DataW.trod_struct Tryz.underlying33 h
  obtain ⟨a0, a1, a2, a3, a4, a5, a6, a7, a8, a9, rfl⟩ := list10 (hl.trans (by kernel_rfl))
  obtain ⟨y0, e0⟩ := xs_at (i := 0) hlen (by decide)
  obtain ⟨y1, e1⟩ := xs_at (i := 1) hlen (by decide)
  obtain ⟨y2, e2⟩ := xs_at (i := 2) hlen (by decide)
  obtain ⟨y3, e3⟩ := xs_at (i := 3) hlen (by decide)
  obtain ⟨y4, e4⟩ := xs_at (i := 4) hlen (by decide)
  obtain ⟨y5, e5⟩ := xs_at (i := 5) hlen (by decide)
  have f0 : DataW.trod enc Tryz.prog w 0 sp hd n 3 ((([a0, a1, a2, a3, a4, a5, a6, a7, a8, a9] : List Value).drop 0).take (Tryz.prog.cellsOf 3)) = some y0 := (hf 0 _ rfl).trans e0
  have f1 : DataW.trod enc Tryz.prog w 0 sp hd n 3 ((([a0, a1, a2, a3, a4, a5, a6, a7, a8, a9] : List Value).drop 1).take (Tryz.prog.cellsOf 3)) = some y1 := (hf 1 _ rfl).trans e1
  have f2 : DataW.trod enc Tryz.prog w 0 sp hd n 24 ((([a0, a1, a2, a3, a4, a5, a6, a7, a8, a9] : List Value).drop 2).take (Tryz.prog.cellsOf 24)) = some y2 := (hf 2 _ rfl).trans e2
  have f3 : DataW.trod enc Tryz.prog w 0 sp hd n 26 ((([a0, a1, a2, a3, a4, a5, a6, a7, a8, a9] : List Value).drop 3).take (Tryz.prog.cellsOf 26)) = some y3 := (hf 3 _ rfl).trans e3
  have f4 : DataW.trod enc Tryz.prog w 0 sp hd n 28 ((([a0, a1, a2, a3, a4, a5, a6, a7, a8, a9] : List Value).drop 5).take (Tryz.prog.cellsOf 28)) = some y4 := (hf 4 _ rfl).trans e4
  have f5 : DataW.trod enc Tryz.prog w 0 sp hd n 31 ((([a0, a1, a2, a3, a4, a5, a6, a7, a8, a9] : List Value).drop 8).take (Tryz.prog.cellsOf 31)) = some y5 := (hf 5 _ rfl).trans e5
  clear hf e0 e1 e2 e3 e4 e5
  simp only [c1, cE, cH, cC, cG, List.drop_zero, List.drop_succ_cons, List.take_succ_cons, List.take_zero] at f0 f1 f2 f3 f4 f5
  obtain ⟨k, g0⟩ := open_i Tryz.underlying3 f0
  obtain ⟨l, g1⟩ := open_i Tryz.underlying3 f1
  obtain ⟨z2, n2, _, _, t2⟩ := trod_struct1 Tryz.underlying24 f2
  obtain ⟨z30, z31, n3, _, _, t30, t31⟩ := trod_struct2 Tryz.underlying26 f3
  obtain ⟨zs, n4, _, _, _, hlen4, hf4⟩ := DataW.trod_struct Tryz.underlying28 f4
  obtain ⟨z50, z51, n5, _, _, t50, t51⟩ := trod_struct2 Tryz.underlying31 f5
  obtain ⟨z40, e40⟩ := xs_at (i := 0) hlen4 (by decide)
  obtain ⟨z41, e41⟩ := xs_at (i := 1) hlen4 (by decide)
  obtain ⟨z42, e42⟩ := xs_at (i := 2) hlen4 (by decide)
  have t40 : DataW.trod enc Tryz.prog w 0 sp hd n4 3 ((([a5, a6, a7] : List Value).drop 0).take (Tryz.prog.cellsOf 3)) = some z40 := (hf4 0 _ rfl).trans e40
  have t41 : DataW.trod enc Tryz.prog w 0 sp hd n4 3 ((([a5, a6, a7] : List Value).drop 1).take (Tryz.prog.cellsOf 3)) = some z41 := (hf4 1 _ rfl).trans e41
  have t42 : DataW.trod enc Tryz.prog w 0 sp hd n4 22 ((([a5, a6, a7] : List Value).drop 2).take (Tryz.prog.cellsOf 22)) = some z42 := (hf4 2 _ rfl).trans e42
  clear hf4 e40 e41 e42
  simp only [c1, cS, cU, cB, List.drop_zero, List.drop_succ_cons, List.take_succ_cons, List.take_zero] at t2 t30 t31 t40 t41 t42 t50 t51
  obtain ⟨e, g2, s2⟩ := open_u64s Tryz.underlying22 Tryz.underlying46 c64 t2
  obtain ⟨bi, g3⟩ := open_i Tryz.underlying3 t30
  obtain ⟨rg, g4, s4⟩ := open_str Tryz.underlying9 t31
  obtain ⟨ro, g5⟩ := open_i Tryz.underlying3 t40
  obtain ⟨co, g6⟩ := open_i Tryz.underlying3 t41
  obtain ⟨c, g7, s7⟩ := open_u64s Tryz.underlying22 Tryz.underlying46 c64 t42
  obtain ⟨fi, g8⟩ := open_i Tryz.underlying3 t50
  obtain ⟨g, g9, s9⟩ := open_bins Tryz.underlying29 Tryz.underlying84 (by kernel_rfl) rfl rfl c1 c64 Tryz.underlying3 Tryz.underlying46 t51
  simp only [List.cons.injEq, and_true] at g0 g1 g2 g3 g4 g5 g6 g7 g8 g9
  subst g0 g1 g2 g3 g4 g5 g6 g7 g8 g9
  exact ⟨⟨k, l, e, bi, rg, ro, co, c, fi, g⟩, rfl, Hold.cons s2 (Hold.cons s7 (Hold.cons s9 (Hold.cons s4 Hold.nil)))⟩
theorem errRow (u : TypeId) (h : Tryz.prog.typeName? 3 u = some "*errors.errorString") : u = 166 :=
  typeName_ptr_named (nm := "errors.errorString") (by kernel_rfl) (by kernel_rfl) (by decide) u h
abbrev laidL : List (String × DataW Unit) := [("aviary/field.errMore", Rows.laid_aviary_field_errMore), ("aviary/field.errNone", Rows.laid_aviary_field_errNone), ("aviary/code.errMore", Rows.laid_aviary_code_errMore), ("aviary/code.errNone", Rows.laid_aviary_code_errNone)]
/-- the packages' errors, as the listing has them -/
theorem errs_of_laid {w : World} (h : laidMet Tryz.prog laidL w) : ∃ e : Errs, Hold (gAll e) (Old w) w ∧ e.cm ≠ e.cn := by
  have cP : Tryz.prog.cellsOf 192 = 1 := by kernel_rfl
  have cS : Tryz.prog.cellsOf 9 = 1 := by kernel_rfl
  obtain ⟨am, sm, um, b1, p1, k1, x1⟩ := sentinel_at h (g := 3) (ti := 61) (by kernel_rfl) (by kernel_rfl) Tryz.underlying61 errRow Tryz.underlying166 Tryz.underlying192 rfl rfl Tryz.underlying9 cP cS
  obtain ⟨an, sn, un, b2, p2, k2, x2⟩ := sentinel_at h.tail (g := 2) (ti := 61) (by kernel_rfl) (by kernel_rfl) Tryz.underlying61 errRow Tryz.underlying166 Tryz.underlying192 rfl rfl Tryz.underlying9 cP cS
  obtain ⟨cm, tm, vm, b3, p3, k3, x3⟩ := sentinel_at h.tail.tail (g := 1) (ti := 61) (by kernel_rfl) (by kernel_rfl) Tryz.underlying61 errRow Tryz.underlying166 Tryz.underlying192 rfl rfl Tryz.underlying9 cP cS
  obtain ⟨cn, tn, vn, b4, p4, k4, x4⟩ := sentinel_at h.tail.tail.tail (g := 0) (ti := 61) (by kernel_rfl) (by kernel_rfl) Tryz.underlying61 errRow Tryz.underlying166 Tryz.underlying192 rfl rfl Tryz.underlying9 cP cS
  have ne1 : am ≠ an := by
    rintro rfl
    rw [k1] at k2
    cases k2
    rw [x1] at x2
    cases x2
  have ne2 : cm ≠ cn := by
    rintro rfl
    rw [k3] at k4
    cases k4
    rw [x3] at x4
    cases x4
  exact ⟨⟨am, an, cm, cn, sm, sn, tm, tn, ne1⟩, Hold.cons b3 (Hold.cons b4 (Hold.cons p3 (Hold.cons p4 (Hold.cons b1 (Hold.cons b2 (Hold.cons p1 (Hold.cons p2 Hold.nil))))))), ne2⟩
noncomputable def low : Nat := (World.holding Tryz.prog default ⟨#[], #[], []⟩).heap.size
def errObj (b : Array UInt8) : Obj := .cells #[.string ⟨b⟩] 192
/-- a world in which the errors lie so -/
noncomputable def laidWorld (os : Os) : World :=
  let w0 := World.holding Tryz.prog os ⟨#[.cells #[.string ⟨#[109, 111, 114, 101]⟩] 192, .cells #[.string ⟨#[110, 111, 32, 102, 105, 101, 108, 100]⟩] 192, .cells #[.string ⟨#[109, 111, 114, 101]⟩] 192, .cells #[.string ⟨#[110, 111, 32, 115, 107, 101, 116, 99, 104]⟩] 192], #[], []⟩
  { w0 with heap := (((w0.heap.modify 3 fun
      | .cells _ t frozen => .cells #[.iface 166 (.pointer (some ⟨low, 0, none⟩))] t frozen
      | o => o).modify 2 fun
      | .cells _ t frozen => .cells #[.iface 166 (.pointer (some ⟨low + 1, 0, none⟩))] t frozen
      | o => o).modify 1 fun
      | .cells _ t frozen => .cells #[.iface 166 (.pointer (some ⟨low + 2, 0, none⟩))] t frozen
      | o => o).modify 0 fun
      | .cells _ t frozen => .cells #[.iface 166 (.pointer (some ⟨low + 3, 0, none⟩))] t frozen
      | o => o }
theorem laidWorld_met (os : Os) (args : Array Value) : laidMet Tryz.prog laidL ((laidWorld os).forCall (fun _ _ => 0) ⟨#[], args, []⟩).memory :=
  laidMet_of_run (ps := [.cell 3 0, .cell low 0, .cell 2 0, .cell (low + 1) 0, .cell 1 0, .cell (low + 2) 0, .cell 0 0, .cell (low + 3) 0]) 8 (by kernel_rfl) (by kernel_rfl) (by kernel_rfl)
/-- an empty sketch -/
abbrev sk0V : Value := .agg #[.int .i64 0, .int .i64 0, .slice none 0 0, .int .i64 0, .string ⟨#[]⟩, .int .i64 0, .int .i64 0, .slice none 0 0, .int .i64 0, .slice none 0 0]
end Go.Proofs.YtpdpajafaifcjaaGreatDoor

/- Numbers' bytes read back. -/
namespace Go.Proofs.YtpdpajafaifcjaaGreatDoor
open Go.Proofs.YtpdpajafaifcjaaGreatDoor.W
set_option linter.unusedVariables false
theorem beVal_from (l : List UInt8) (a : Nat) : l.foldl (fun a b => a * 256 + b.toNat) a = a * 256 ^ l.length + beVal l := by
  induction l generalizing a with
  | nil => simp [beVal]
  | cons b l ih =>
    have h1 := ih (a * 256 + b.toNat)
    have h2 := ih (0 * 256 + b.toNat)
    simp only [List.foldl_cons, List.length_cons, beVal] at *
    rw [h1, h2, Nat.pow_succ, Nat.add_mul, Nat.zero_mul, Nat.zero_add, Nat.mul_assoc, Nat.mul_comm 256, Nat.add_assoc]
theorem beVal_cons (b : UInt8) (l : List UInt8) : beVal (b :: l) = b.toNat * 256 ^ l.length + beVal l := by
  have := beVal_from l (0 * 256 + b.toNat)
  rw [Nat.zero_mul, Nat.zero_add] at this
  simp only [beVal, List.foldl_cons, Nat.zero_mul, Nat.zero_add] at *
  exact this
theorem beVal_be (n k : Nat) : beVal (be n k) = n % 256 ^ k := by
  induction k with
  | zero => simp [be, beVal, Nat.mod_one]
  | succ k ih =>
    have e : (UInt8.ofNat (n / 256 ^ k)).toNat = n / 256 ^ k % 256 := UInt8.toNat_ofNat'
    rw [be, beVal_cons, be_len, ih, e, Nat.pow_succ, Nat.mod_mul, Nat.add_comm, Nat.mul_comm]
theorem szF_lt {n : Nat} (hn : n < 256 ^ 8) : ∀ f k : Nat, f + k = 8 → n < 256 ^ szF n f k
  | 0, k, h => by rw [szF, show k = 8 by omega]; exact hn
  | f + 1, k, h => by
    rw [szF]
    split
    · exact szF_lt hn f (k + 1) (by omega)
    · rename_i hc
      have h0 : n / 256 ^ k = 0 := Classical.byContradiction fun e => hc ⟨by omega, e⟩
      exact (Nat.div_eq_zero_iff_lt (Nat.pow_pos (by decide))).1 h0
theorem szF_ge (n : Nat) : ∀ f k : Nat, k ≤ szF n f k
  | 0, k => Nat.le_refl _
  | f + 1, k => by
    rw [szF]; split
    · exact Nat.le_trans (Nat.le_succ k) (szF_ge n f (k + 1))
    · exact Nat.le_refl _
theorem putN_parts {n : Nat} (hn : n ≤ 18446744073709551615) : ∃ f r v, putN n = f :: r ∧ sizeBase f.toNat = (r.length, v) ∧ beVal r + v = n := by
  unfold putN
  split
  · exact ⟨_, [], n, rfl, by rw [UInt8.toNat_ofNat', Nat.mod_eq_of_lt (by omega), sizeBase, if_neg (by omega), if_neg (by omega), if_neg (by omega)]; rfl, by simp [beVal]⟩
  · split
    · refine ⟨_, _, 240 + (n - 240) / 256 * 256, rfl, ?_, ?_⟩
      · rw [UInt8.toNat_ofNat', Nat.mod_eq_of_lt (by omega), sizeBase, if_neg (by omega), if_neg (by omega), if_pos (by omega), be_len, show 241 + (n - 240) / 256 - 241 = (n - 240) / 256 by omega]
      · rw [beVal_be, Nat.pow_one]; omega
    · split
      · refine ⟨_, _, 2288, rfl, ?_, ?_⟩
        · rw [be_len]; rfl
        · rw [beVal_be, show (256 : Nat) ^ 2 = 65536 from rfl]; omega
      · have h8 : sz n ≤ 8 := szF_le n 5 3 (by decide)
        have h3 : 3 ≤ sz n := szF_ge n 5 3
        have hlt : n < 256 ^ sz n := szF_lt (by rw [show (256 : Nat) ^ 8 = 18446744073709551616 from rfl]; omega) 5 3 rfl
        refine ⟨_, _, 0, rfl, ?_, ?_⟩
        · rw [UInt8.toNat_ofNat', Nat.mod_eq_of_lt (by omega), sizeBase, if_pos (by omega), be_len, show 247 + sz n - 247 = sz n by omega]
        · rw [beVal_be, Nat.mod_eq_of_lt hlt, Nat.add_zero]
theorem getF_put {n : Nat} (hn : n ≤ 18446744073709551615) (t : List UInt8) : getF (putN n ++ t) = .ok n t := by
  obtain ⟨f, r, v, h1, h2, h3⟩ := putN_parts hn
  rw [h1, List.cons_append, getF, h2]
  have e1 : (r ++ t).take r.length = r := List.take_left' rfl
  have e2 : (r ++ t).drop r.length = t := List.drop_left' rfl
  have e3 : (f :: (r ++ t)).take (1 + r.length) = f :: r := by rw [Nat.add_comm, List.take_succ_cons, e1]
  rw [if_neg (by rw [List.length_append]; omega)]
  simp only [e1, e2, e3, h3, h1]
  simp
theorem numR_put {mx : Int} (n : UInt64) (h : (n.toNat : Int) ≤ mx) (t : List UInt8) : numR mx (putN n.toNat ++ t) = .ok n t := by
  have hn := n.toNat_lt
  simp only [numR, getF_put (show n.toNat ≤ 18446744073709551615 by omega)]
  rw [if_neg (by omega)]
  simp
theorem listR_put : ∀ (l : List UInt64) (t : List UInt8), listR l.length (putL l ++ t) = .ok l t
  | [], t => rfl
  | x :: l, t => by
    have hx := x.toNat_lt
    have e : putL (x :: l) ++ t = putN x.toNat ++ (putL l ++ t) := by
      show (putN x.toNat ++ putL l) ++ t = _
      rw [List.append_assoc]
    rw [e, List.length_cons, listR, numR_put x (by omega)]
    simp only [listR_put l t]
theorem cntR_put {mx : Int} {w : Nat} (m : UInt64) (l : List UInt64) (h : (m.toNat : Int) ≤ mx) (hl : l.length = m.toNat * w) (t : List UInt8) : cntR mx w (putL (m :: l) ++ t) = .ok l t := by
  have e : putL (m :: l) ++ t = putN m.toNat ++ (putL l ++ t) := by
    show (putN m.toNat ++ putL l) ++ t = _
    rw [List.append_assoc]
  rw [cntR, e, numR_put m h]
  simp only [← hl, listR_put]
theorem sums_dif (a : UInt64) (l : List UInt64) : sumsU a (difU a l) = l := by
  induction l generalizing a with
  | nil => rfl
  | cons x l ih =>
    have e : a + (x - a) = x := by
      rw [← UInt64.toNat_inj, UInt64.toNat_add, UInt64.toNat_sub]
      have := a.toNat_lt; have := x.toNat_lt; omega
    rw [difU, sumsU, e, ih]
theorem hOk_len {f : Int} : ∀ {last : Int} {l : List Bin}, last ≤ 512 → hOk f last l = true → (l.length : Int) ≤ 512 - last
  | _, [], h, _ => by simp; omega
  | last, b :: r, h, ho => by
    simp only [hOk, Bool.and_eq_true, decide_eq_true_eq] at ho
    have h1 := (bOk_range ho.1.1.1).2
    have h2 := hOk_len h1.2 ho.2
    rw [List.length_cons]; omega
theorem bins_bin {f : Int} : ∀ {last a : Int} {l : List Bin}, a ≤ last + 1 → hOk f last l = true → 0 ≤ a → binsV a (binN a l) = l
  | _, _, [], _, _, _ => rfl
  | last, a, b :: r, h, ho, ha => by
    have ho' := ho
    simp only [hOk, Bool.and_eq_true, decide_eq_true_eq] at ho
    have h1 := (bOk_range ho.1.1.1).2
    have hu : ((U (b.at_ - a)).toNat : Int) = b.at_ - a := U_is (by omega)
    have e : min (a + min ((U (b.at_ - a)).toNat : Int) 1000000) 1000000 = b.at_ := by rw [hu]; omega
    rw [binN, binsV, e, bins_bin (last := b.at_) (by omega) ho.2 h1.1]
theorem skR_enc {x : Sk} (h : rightS x = true) (t : List UInt8) : skR (encS x ++ t) = .ok x t := by
  have hat := (rightS_at h).1
  have hs := rightS_split h
  simp only [rightS, Bool.and_eq_true, decide_eq_true_eq] at h
  obtain ⟨⟨⟨h1, h2⟩, h3⟩, h4⟩ := h
  have hk : ((U x.kind).toNat : Int) = x.kind := U_is (by omega)
  have hl : ((U x.level).toNat : Int) = x.level := U_is (by omega)
  have e : encS x ++ t = putN (U x.kind).toNat ++ (putN (U x.level).toNat ++ (x.regs ++ (putL (numS x) ++ t))) := by
    show ((putN _ ++ (putN _ ++ [])) ++ x.regs ++ putL (numS x)) ++ t = _
    simp only [List.append_nil, List.append_assoc]
  have key : skR (encS x ++ t) = takeR x.kind x.level (x.regs ++ (putL (numS x) ++ t)) := by
    rw [e, skR, numR_put _ (by omega)]
    simp only [hk]
    rw [if_neg (by omega), numR_put _ (by omega)]
    simp only [hl]
  rw [key]
  rcases hs with ⟨k, l, r, c, g, hr⟩ | ⟨k, l, e, c, g, hr, hb⟩ | ⟨k, e, r, g, hc⟩ | ⟨k, e, r, c, hr⟩
  · simp only [exactRight, Bool.and_eq_true, decide_eq_true_eq] at hr
    have hn : numS x = U x.e.length :: difU 0 x.e := by
      rw [numS, headN, if_pos ⟨k, l⟩, c, g]; simp [binN]
    have hm : ((U (x.e.length : Nat)).toNat : Int) = x.e.length := U_is (by omega)
    rw [k, hn, r, List.nil_append, tk1 l (cntR_put (mx := 64) (w := 1) _ _ (by omega) (by rw [difU_len]; omega) t)]
    simp only [sums_dif]
    rw [endS, if_pos k, if_pos l, k, l] at h4
    rw [h4]
  · have hn : numS x = [] := by
      rw [numS, headN, if_neg (by omega), if_neg (by omega), e, c, g]; rfl
    simp only [hllRight, Bool.and_eq_true, decide_eq_true_eq] at hr
    have hlen : x.regs.length = 2 ^ (8 - x.level).toNat := by
      have := hr.1.2.2
      rw [hb] at this
      exact_mod_cast this
    rw [hn, k]
    rw [tk1o (by omega) (by rw [List.length_append]; omega)]
    rw [endS, if_pos k, if_neg (by omega), k, hb] at h4
    have e1 : (x.regs ++ (putL [] ++ t)).take (2 ^ (8 - x.level).toNat) = x.regs := by rw [← hlen]; exact List.take_left' rfl
    have e2 : (x.regs ++ (putL [] ++ t)).drop (2 ^ (8 - x.level).toNat) = t := by rw [← hlen]; exact List.drop_left' rfl
    rw [e1, e2]
    rw [show 8 - (8 - x.level) = x.level by omega] at h4
    rw [h4]
  · rw [okS, if_neg (by omega), if_pos k] at h3
    simp only [Bool.and_eq_true, decide_eq_true_eq] at h3
    have hn : numS x = x.c := by
      rw [numS, headN, if_neg (by omega), if_neg (by omega), e, g]; simp [difU, binN]
    have hco : x.cols = ((32 / 2 ^ x.level.toNat : Nat) : Int) := by rw [h3.2]; exact fdG (by omega)
    simp only [cmsRight, Bool.and_eq_true, decide_eq_true_eq] at hc
    have hlen : x.c.length = 2 * (32 / 2 ^ x.level.toNat) := by
      have := hc.2
      rw [h3.1.2, hco] at this
      exact_mod_cast this
    rw [hn, r, List.nil_append, k, tk2 (x := .ok x.c t) (by rw [← hlen]; exact listR_put _ _)]
    rw [endS, if_neg (by omega), if_pos k, k, h3.1.2, hco] at h4
    simp only [h4]
  · rw [okS, if_neg (by omega), if_neg (by omega)] at h3
    simp only [Bool.and_eq_true, decide_eq_true_eq] at h3
    have hn : numS x = U x.g.length :: binN 0 x.g := by
      rw [numS, headN, if_neg (by omega), if_pos k, e, c]; simp [difU]
    simp only [histRight, Bool.and_eq_true] at hr
    have hlen := hOk_len (by decide) hr.2
    have hm : ((U (x.g.length : Nat)).toNat : Int) = x.g.length := U_is (by omega)
    rw [hn, r, List.nil_append, k, tk3 (cntR_put (mx := 1000) (w := 2) _ _ (by omega) (by rw [binN_len]; omega) t)]
    simp only [bins_bin (by decide) hr.2 (Int.le_refl 0)]
    rw [endS, if_neg (by omega), if_neg (by omega), k, h3.2] at h4
    rw [h4]
theorem decR_enc {x : Sk} (h : rightS x = true) (t : List UInt8) : decR (encB x ++ t) = (x, t, 0) := by
  have e : encB x = encS x := by rw [encB, if_pos h]
  rw [e]
  exact decR_o (skR_enc h t) ⟨by rw [encE, if_pos h], by rw [e]⟩
theorem enc_inj {x y : Sk} (hx : rightS x = true) (hy : rightS y = true) (t : List UInt8) (h : encB y = encB x ++ t) : x = y ∧ t = [] := by
  have h1 := decR_enc hx t
  have h2 := decR_enc hy []
  rw [List.append_nil, h, h1] at h2
  cases h2
  exact ⟨rfl, rfl⟩
end Go.Proofs.YtpdpajafaifcjaaGreatDoor

/- apart -/
namespace Go.Proofs.YtpdpajafaifcjaaGreatDoor
open Go.Proofs.YtpdpajafaifcjaaGreatDoor.W
set_option maxRecDepth 100000
set_option linter.unusedVariables false
theorem take_eq {a b : List UInt8} (h : b.take a.length = a) : b = a ++ b.drop a.length := by
  have := List.take_append_drop a.length b
  rw [h] at this; exact this.symm
theorem encS_enc {x : Sk} (h : rightS x = true) : encB x = encS x := by rw [encB, if_pos h]
theorem apart_law {x y : Sk} (hx : rightS x = true) (hy : rightS y = true) : (decide ((encS y).take (encS x).length = encS x)) = decide (x = y) := by
  refine decide_eq_decide.2 ⟨fun h => ?_, fun h => by rw [h]; exact List.take_length⟩
  exact (enc_inj hx hy ((encS y).drop (encS x).length) (by rw [encS_enc hx, encS_enc hy]; exact take_eq h)).1
theorem apart_le {x y : Sk} (h : x = y) : (encS x).length ≤ (encS y).length := by rw [h]; exact Nat.le_refl _

theorem c_apart (x y : SkV) (e : Errs) (hne : e.cm ≠ e.cn) : Ct Tryz.prog 4 [] [x.sv, y.sv] (x.fs ++ y.fs ++ gAll e) (Rv (.bool true)) := by
  refine Ct.of Tryz.func4 rfl (n := 61) rfl rfl rfl ?_
  conv => whnf
  repeat' first
    | (refine Ob.mk rfl ?_; conv => whnf)
    | (refine Nx.mk ?_; conv => whnf)
    | (refine BR.yes ?_; conv => whnf)
    | (refine BR.no ?_; conv => whnf)
    | (intro bk; conv => whnf)
    | (show CallK _ _ 6 _ _ _ _; refine CallK.rv (c_shown e hne) (by repeat' (first | exact trivial | exact .head _ | apply List.Mem.tail | apply And.intro)) (Nx.go ?_))
    | (show CallK _ _ 7 _ _ _ _; refine CallK.rf (c_few10 x) (by repeat' (first | exact trivial | exact .head _ | apply List.Mem.tail | apply And.intro)) (fun u hu => Nx.go ?_))
    | (show CallK _ _ 7 _ _ _ _; refine CallK.rf (c_few10 y) (by repeat' (first | exact trivial | exact .head _ | apply List.Mem.tail | apply And.intro)) (fun v hv => Nx.go ?_))
    | (show CallK _ _ 8 _ _ _ _; refine CallK.rv (c_encT u (Nat.le_trans (show u.e.l.length ≤ 70 from (few_len hu).1) (by decide)) (Nat.le_trans (show u.c.l.length ≤ 200 from (few_len hu).2.2.1) (by decide)) (Nat.le_trans (show u.g.l.length ≤ 300 from (few_len hu).2.2.2) (by decide)) (Nat.le_trans (show u.regs.length ≤ 260 from (few_len hu).2.1) (by decide)) h0) (by repeat' (first | exact trivial | exact .head _ | apply List.Mem.tail | apply And.intro)) (Nx.go ?_))
    | (show CallK _ _ 8 _ _ _ _; refine CallK.rv (c_encF u (Nat.le_trans (show u.e.l.length ≤ 70 from (few_len hu).1) (by decide)) (Nat.le_trans (show u.c.l.length ≤ 200 from (few_len hu).2.2.1) (by decide)) (Nat.le_trans (show u.g.l.length ≤ 300 from (few_len hu).2.2.2) (by decide)) (Nat.le_trans (show u.regs.length ≤ 260 from (few_len hu).2.1) (by decide)) h0) (by repeat' (first | exact trivial | exact .head _ | apply List.Mem.tail | apply And.intro)) (Nx.go ?_))
    | (show CallK _ _ 8 _ _ _ _; refine CallK.rv (c_encT v (Nat.le_trans (show v.e.l.length ≤ 70 from (few_len hv).1) (by decide)) (Nat.le_trans (show v.c.l.length ≤ 200 from (few_len hv).2.2.1) (by decide)) (Nat.le_trans (show v.g.l.length ≤ 300 from (few_len hv).2.2.2) (by decide)) (Nat.le_trans (show v.regs.length ≤ 260 from (few_len hv).2.1) (by decide)) h1) (by repeat' (first | exact trivial | exact .head _ | apply List.Mem.tail | apply And.intro)) (Nx.go ?_))
    | (show CallK _ _ 8 _ _ _ _; refine CallK.rv (c_encF v (Nat.le_trans (show v.e.l.length ≤ 70 from (few_len hv).1) (by decide)) (Nat.le_trans (show v.c.l.length ≤ 200 from (few_len hv).2.2.1) (by decide)) (Nat.le_trans (show v.g.l.length ≤ 300 from (few_len hv).2.2.2) (by decide)) (Nat.le_trans (show v.regs.length ≤ 260 from (few_len hv).2.1) (by decide)) h1) (by repeat' (first | exact trivial | exact .head _ | apply List.Mem.tail | apply And.intro)) (Nx.go ?_))
    | (show CallK _ _ 11 _ _ _ _; refine CallK.rv (c_same u v) (by repeat' (first | exact trivial | exact .head _ | apply List.Mem.tail | apply And.intro)) (Nx.go ?_))
    | (show CallK _ _ 13 _ _ _ _; refine CallK.rv (c_size u (Nat.le_trans (show u.e.l.length ≤ 70 from (few_len hu).1) (by decide)) (Nat.le_trans (show u.c.l.length ≤ 200 from (few_len hu).2.2.1) (by decide)) (Nat.le_trans (show u.g.l.length ≤ 300 from (few_len hu).2.2.2) (by decide)) (Nat.le_trans (show u.regs.length ≤ 260 from (few_len hu).2.1) (by decide))) (by repeat' (first | exact trivial | exact .head _ | apply List.Mem.tail | apply And.intro)) (Nx.go ?_))
    | (show CallK _ _ 8 [u.sv] _ _ _; rcases h0 : rightS u.sk)
    | (show CallK _ _ 8 [v.sv] _ _ _; rcases h1 : rightS v.sk)
    | (refine Idx.nat ?_; conv => whnf)
    | (refine Idx.is _ rfl ?_; conv => whnf)
    | (show RdB _ _ _; refine RdB.mk' (by repeat (first | exact .head _ | apply List.Mem.tail)) (Nx.go ?_))
    | (show SlW _ _ _ _ _ _ _ _ _; refine SlW.s (by repeat (first | exact .head _ | apply List.Mem.tail)) (by omega) (fun ys hys hcs => Nx.go ?_))
    | (refine AR.i64 (by omega) ?_; conv => whnf)
    | (refine AR.u64 (by omega) ?_; conv => whnf)
    | (refine AR.u8 (by omega) ?_; conv => whnf)
    | (refine Ob.mk (by omega) ?_; conv => whnf)
    | (refine BR.mk (fun h => ?_) (fun h => ?_) <;> (first | rw [Bool.not_eq_true'] at h | rw [Bool.not_eq_false'] at h | skip) <;> (try rw [h]) <;> (first | replace h := of_decide_eq_true h | replace h := of_decide_eq_false h | replace h := eq_of_beq h | replace h := bne_iff_ne.1 h | replace h := beq_eq_false_iff_ne.1 h | replace h := bne_eq_false_iff_eq.1 h | skip) <;> conv => whnf)
  all_goals first | rfl | (rw [encS_enc h0]; simp only [resS, beq_self_eq_true]; done) | exact absurd (by rw [List.drop_zero]; exact apart_law h0 h1) h | (have e1 : u.sk = v.sk := (by simpa using h); exact absurd (Int.ofNat_le.2 (apart_le e1)) (by assumption))
end Go.Proofs.YtpdpajafaifcjaaGreatDoor

/- back -/
namespace Go.Proofs.YtpdpajafaifcjaaGreatDoor
open Go.Proofs.YtpdpajafaifcjaaGreatDoor.W
set_option maxRecDepth 100000
set_option linter.unusedVariables false
theorem c_decY (s : List UInt8) (w : Sk) (q : List UInt8) (c : Int) (e : Errs) (h : decR s = (w, q, c)) (hs : s.length ≤ 1000000) (hne : e.cm ≠ e.cn) : Ct Tryz.prog 9 [] [.str s] (gAll e) (Rs (fun z : SkV => .tup [z.sv, .str q, .int .i64 c]) (fun _ => []) SkV.fs (fun z => z.sk = w)) := by
  have h2 := c_dec s e hs hne
  rw [h] at h2
  exact h2
theorem decR_cases (s : List UInt8) : (∃ x q, decR s = (x, q, 0) ∧ rightS x = true ∧ encS x ++ q = s ∧ (x.e.length ≤ 100 ∧ x.c.length ≤ 100 ∧ x.g.length ≤ 1000 ∧ x.regs.length ≤ s.length)) ∨ ∃ c : Int, c ≠ 0 ∧ decR s = (sk0.sk, s, c) := by
  cases h : skR s with
  | more => exact .inr ⟨20, by decide, decR_m h⟩
  | bad => exact .inr ⟨110, by decide, decR_b h⟩
  | ok x q =>
    by_cases h1 : encE x = 0 ∧ encB x ++ q = s
    · have hr : rightS x = true := by
        have h2 := h1.1
        unfold encE at h2
        split at h2
        · assumption
        · cases h2
      have hl := skR_len h
      exact .inl ⟨x, q, decR_o h h1, hr, by rw [← encS_enc hr]; exact h1.2, hl.1, hl.2.1, hl.2.2.1, hl.2.2.2.1⟩
    · exact .inr ⟨110, by decide, decR_n h h1⟩
theorem decR_encS {x : Sk} (h : rightS x = true) (t : List UInt8) : decR (encS x ++ t) = (x, t, 0) := by rw [← encS_enc h]; exact decR_enc h t
theorem sk0_right : rightS sk0.sk = false := by kernel_rfl
theorem sk_len {z : SkV} {x : Sk} (h : z.sk = x) : z.e.l.length = x.e.length ∧ z.c.l.length = x.c.length ∧ z.g.l.length = x.g.length ∧ z.regs.length = x.regs.length := by subst h; exact ⟨rfl, rfl, rfl, rfl⟩
theorem back_len {x y : Sk} {t : List UInt8} (h : y = x.few) (hr : rightS y = true) : (encS y ++ t.take 2000).length ≤ 1000000 := by
  have h1 := few_enc h
  rw [encS_enc hr] at h1
  rw [List.length_append, List.length_take]; omega

theorem ob0 (t : List UInt8) : ([] : List UInt8).length + (t.take 2000).length ≤ 9223372036854775807 := by rw [List.length_take, List.length_nil]; omega
theorem ob1 {x y : Sk} {t : List UInt8} (h : y = x.few) (hr : rightS y = true) : (encS y).length + (t.take 2000).length ≤ 9223372036854775807 := by
  have h1 := back_len (t := t) h hr
  rw [List.length_append] at h1; omega
theorem ob2 {w z : Sk} {q t : List UInt8} (h : encS w ++ q = t.take 2000) (e : z = w) : (encS z).length + q.length ≤ 9223372036854775807 := by
  have h1 := congrArg List.length h
  rw [List.length_append, List.length_take] at h1
  rw [e]; omega

theorem c_backY (x : SkV) (t : List UInt8) (e : Errs) (hne : e.cm ≠ e.cn) (w2 : Sk) (q2 : List UInt8) (hD : decR (t.take 2000) = (w2, q2, 0)) (hR : rightS w2 = true) (hE : encS w2 ++ q2 = t.take 2000) (hB : w2.e.length ≤ 100 ∧ w2.c.length ≤ 100 ∧ w2.g.length ≤ 1000 ∧ w2.regs.length ≤ (t.take 2000).length) : Ct Tryz.prog 3 [] [x.sv, .str t] (x.fs ++ gAll e) (Rv (.bool true)) := by
  refine Ct.of Tryz.func3 rfl (n := 91) rfl rfl rfl ?_
  conv => whnf
  repeat' first
    | (refine Ob.mk (ob0 t) ?_; conv => whnf)
    | (refine Ob.mk (ob1 hu h0) ?_; conv => whnf)
    | (refine Ob.mk (ob2 hE hz2) ?_; conv => whnf)
    | (refine Ob.mk rfl ?_; conv => whnf)
    | (refine Nx.mk ?_; conv => whnf)
    | (refine BR.yes ?_; conv => whnf)
    | (refine BR.no ?_; conv => whnf)
    | (intro bk; conv => whnf)
    | (show CallK _ _ 6 _ _ _ _; refine CallK.rv (c_shown e hne) (by repeat' (first | exact trivial | exact .head _ | apply List.Mem.tail | apply And.intro)) (Nx.go ?_))
    | (show CallK _ _ 7 _ _ _ _; refine CallK.rf (c_few10 x) (by repeat' (first | exact trivial | exact .head _ | apply List.Mem.tail | apply And.intro)) (fun u hu => Nx.go ?_))
    | (show CallK _ _ 8 _ _ _ _; refine CallK.rv (c_encT u (Nat.le_trans (show u.e.l.length ≤ 70 from (few_len hu).1) (by decide)) (Nat.le_trans (show u.c.l.length ≤ 200 from (few_len hu).2.2.1) (by decide)) (Nat.le_trans (show u.g.l.length ≤ 300 from (few_len hu).2.2.2) (by decide)) (Nat.le_trans (show u.regs.length ≤ 260 from (few_len hu).2.1) (by decide)) h0) (by repeat' (first | exact trivial | exact .head _ | apply List.Mem.tail | apply And.intro)) (Nx.go ?_))
    | (show CallK _ _ 8 _ _ _ _; refine CallK.rv (c_encF u (Nat.le_trans (show u.e.l.length ≤ 70 from (few_len hu).1) (by decide)) (Nat.le_trans (show u.c.l.length ≤ 200 from (few_len hu).2.2.1) (by decide)) (Nat.le_trans (show u.g.l.length ≤ 300 from (few_len hu).2.2.2) (by decide)) (Nat.le_trans (show u.regs.length ≤ 260 from (few_len hu).2.1) (by decide)) h0) (by repeat' (first | exact trivial | exact .head _ | apply List.Mem.tail | apply And.intro)) (Nx.go ?_))
    | (show CallK _ _ 10 _ _ _ _; refine CallK.rv (c_cut t) (by repeat' (first | exact trivial | exact .head _ | apply List.Mem.tail | apply And.intro)) (Nx.go ?_))
    | (show CallK _ _ _ _ _ _ _; refine CallK.rf (c_decY (encS u.sk ++ t.take 2000) _ _ _ e (decR_encS h0 _) (back_len hu h0) hne) (by repeat' (first | exact trivial | exact .head _ | apply List.Mem.tail | apply And.intro)) (fun z hz => Nx.go ?_))
    | (show CallK _ _ _ _ _ _ _; refine CallK.rf (c_decY (t.take 2000) _ _ _ e hD (Nat.le_trans (List.length_take_le _ _) (by decide)) hne) (by repeat' (first | exact trivial | exact .head _ | apply List.Mem.tail | apply And.intro)) (fun z2 hz2 => Nx.go ?_))
    | (show CallK _ _ 11 _ _ _ _; refine CallK.rv (c_same z u) (by repeat' (first | exact trivial | exact .head _ | apply List.Mem.tail | apply And.intro)) (Nx.go ?_))
    | (show CallK _ _ 8 _ _ _ _; refine CallK.rv (c_encT z2 (by rw [(sk_len hz2).1]; exact Nat.le_trans hB.1 (by decide)) (by rw [(sk_len hz2).2.1]; exact Nat.le_trans hB.2.1 (by decide)) (by rw [(sk_len hz2).2.2.1]; exact Nat.le_trans hB.2.2.1 (by decide)) (by rw [(sk_len hz2).2.2.2]; refine Nat.le_trans hB.2.2.2 (Nat.le_trans (List.length_take_le _ _) (by decide))) (by rw [hz2]; exact hR)) (by repeat' (first | exact trivial | exact .head _ | apply List.Mem.tail | apply And.intro)) (Nx.go ?_))
    | (show CallK _ _ 8 _ _ _ _; refine CallK.rv (c_encF z2 (by rw [(sk_len hz2).1]; exact Nat.zero_le _) (by rw [(sk_len hz2).2.1]; exact Nat.zero_le _) (by rw [(sk_len hz2).2.2.1]; exact Nat.zero_le _) (by rw [(sk_len hz2).2.2.2]; exact Nat.zero_le _) (by rw [hz2]; exact sk0_right)) (by repeat' (first | exact trivial | exact .head _ | apply List.Mem.tail | apply And.intro)) (Nx.go ?_))
    | (show CallK _ _ 12 _ _ _ _; refine CallK.rv (c_rightX u (Nat.le_trans (show u.e.l.length ≤ 70 from (few_len hu).1) (by decide)) (Nat.le_trans (show u.c.l.length ≤ 200 from (few_len hu).2.2.1) (by decide)) (Nat.le_trans (show u.g.l.length ≤ 300 from (few_len hu).2.2.2) (by decide)) (Nat.le_trans (show u.regs.length ≤ 260 from (few_len hu).2.1) (by decide)) h0) (by repeat' (first | exact trivial | exact .head _ | apply List.Mem.tail | apply And.intro)) (Nx.go ?_))
    | (show CallK _ _ 12 _ _ _ _; refine CallK.rv (c_rightX z2 (by rw [(sk_len hz2).1]; exact Nat.le_trans hB.1 (by decide)) (by rw [(sk_len hz2).2.1]; exact Nat.le_trans hB.2.1 (by decide)) (by rw [(sk_len hz2).2.2.1]; exact Nat.le_trans hB.2.2.1 (by decide)) (by rw [(sk_len hz2).2.2.2]; refine Nat.le_trans hB.2.2.2 (Nat.le_trans (List.length_take_le _ _) (by decide))) (r := true) (by rw [hz2]; exact hR)) (by repeat' (first | exact trivial | exact .head _ | apply List.Mem.tail | apply And.intro)) (Nx.go ?_))
    | (show CallK _ _ 8 [u.sv] _ _ _; rcases h0 : rightS u.sk)
    | (show RdB _ _ _; refine RdB.mk' (by repeat (first | exact .head _ | apply List.Mem.tail)) (Nx.go ?_))
    | (refine AR.i64 (by omega) ?_; conv => whnf)
    | (refine AR.u64 (by omega) ?_; conv => whnf)
    | (refine AR.u8 (by omega) ?_; conv => whnf)
    | (refine Ob.mk (by omega) ?_; conv => whnf)
    | (refine BR.mk (fun h => ?_) (fun h => ?_) <;> (first | rw [Bool.not_eq_true'] at h | rw [Bool.not_eq_false'] at h | skip) <;> (try rw [h]) <;> (first | replace h := of_decide_eq_true h | replace h := of_decide_eq_false h | replace h := eq_of_beq h | replace h := bne_iff_ne.1 h | replace h := beq_eq_false_iff_ne.1 h | replace h := bne_eq_false_iff_eq.1 h | skip) <;> conv => whnf)
  all_goals first | rfl | exact absurd (by rw [hz2]; exact hE) h | exact absurd hz h | exact absurd rfl h | exact absurd h hc2

theorem c_backN (x : SkV) (t : List UInt8) (e : Errs) (hne : e.cm ≠ e.cn) (c2 : Int) (hc2 : c2 ≠ 0) (hD : decR (t.take 2000) = (sk0.sk, t.take 2000, c2)) : Ct Tryz.prog 3 [] [x.sv, .str t] (x.fs ++ gAll e) (Rv (.bool true)) := by
  refine Ct.of Tryz.func3 rfl (n := 91) rfl rfl rfl ?_
  conv => whnf
  repeat' first
    | (refine Ob.mk (ob0 t) ?_; conv => whnf)
    | (refine Ob.mk (ob1 hu h0) ?_; conv => whnf)
    | (refine Ob.mk (ob2 hE hz2) ?_; conv => whnf)
    | (refine Ob.mk rfl ?_; conv => whnf)
    | (refine Nx.mk ?_; conv => whnf)
    | (refine BR.yes ?_; conv => whnf)
    | (refine BR.no ?_; conv => whnf)
    | (intro bk; conv => whnf)
    | (show CallK _ _ 6 _ _ _ _; refine CallK.rv (c_shown e hne) (by repeat' (first | exact trivial | exact .head _ | apply List.Mem.tail | apply And.intro)) (Nx.go ?_))
    | (show CallK _ _ 7 _ _ _ _; refine CallK.rf (c_few10 x) (by repeat' (first | exact trivial | exact .head _ | apply List.Mem.tail | apply And.intro)) (fun u hu => Nx.go ?_))
    | (show CallK _ _ 8 _ _ _ _; refine CallK.rv (c_encT u (Nat.le_trans (show u.e.l.length ≤ 70 from (few_len hu).1) (by decide)) (Nat.le_trans (show u.c.l.length ≤ 200 from (few_len hu).2.2.1) (by decide)) (Nat.le_trans (show u.g.l.length ≤ 300 from (few_len hu).2.2.2) (by decide)) (Nat.le_trans (show u.regs.length ≤ 260 from (few_len hu).2.1) (by decide)) h0) (by repeat' (first | exact trivial | exact .head _ | apply List.Mem.tail | apply And.intro)) (Nx.go ?_))
    | (show CallK _ _ 8 _ _ _ _; refine CallK.rv (c_encF u (Nat.le_trans (show u.e.l.length ≤ 70 from (few_len hu).1) (by decide)) (Nat.le_trans (show u.c.l.length ≤ 200 from (few_len hu).2.2.1) (by decide)) (Nat.le_trans (show u.g.l.length ≤ 300 from (few_len hu).2.2.2) (by decide)) (Nat.le_trans (show u.regs.length ≤ 260 from (few_len hu).2.1) (by decide)) h0) (by repeat' (first | exact trivial | exact .head _ | apply List.Mem.tail | apply And.intro)) (Nx.go ?_))
    | (show CallK _ _ 10 _ _ _ _; refine CallK.rv (c_cut t) (by repeat' (first | exact trivial | exact .head _ | apply List.Mem.tail | apply And.intro)) (Nx.go ?_))
    | (show CallK _ _ _ _ _ _ _; refine CallK.rf (c_decY (encS u.sk ++ t.take 2000) _ _ _ e (decR_encS h0 _) (back_len hu h0) hne) (by repeat' (first | exact trivial | exact .head _ | apply List.Mem.tail | apply And.intro)) (fun z hz => Nx.go ?_))
    | (show CallK _ _ _ _ _ _ _; refine CallK.rf (c_decY (t.take 2000) _ _ _ e hD (Nat.le_trans (List.length_take_le _ _) (by decide)) hne) (by repeat' (first | exact trivial | exact .head _ | apply List.Mem.tail | apply And.intro)) (fun z2 hz2 => Nx.go ?_))
    | (show CallK _ _ 11 _ _ _ _; refine CallK.rv (c_same z u) (by repeat' (first | exact trivial | exact .head _ | apply List.Mem.tail | apply And.intro)) (Nx.go ?_))
    | (show CallK _ _ 8 _ _ _ _; refine CallK.rv (c_encT z2 (by rw [(sk_len hz2).1]; exact Nat.le_trans hB.1 (by decide)) (by rw [(sk_len hz2).2.1]; exact Nat.le_trans hB.2.1 (by decide)) (by rw [(sk_len hz2).2.2.1]; exact Nat.le_trans hB.2.2.1 (by decide)) (by rw [(sk_len hz2).2.2.2]; refine Nat.le_trans hB.2.2.2 (Nat.le_trans (List.length_take_le _ _) (by decide))) (by rw [hz2]; exact hR)) (by repeat' (first | exact trivial | exact .head _ | apply List.Mem.tail | apply And.intro)) (Nx.go ?_))
    | (show CallK _ _ 8 _ _ _ _; refine CallK.rv (c_encF z2 (by rw [(sk_len hz2).1]; exact Nat.zero_le _) (by rw [(sk_len hz2).2.1]; exact Nat.zero_le _) (by rw [(sk_len hz2).2.2.1]; exact Nat.zero_le _) (by rw [(sk_len hz2).2.2.2]; exact Nat.zero_le _) (by rw [hz2]; exact sk0_right)) (by repeat' (first | exact trivial | exact .head _ | apply List.Mem.tail | apply And.intro)) (Nx.go ?_))
    | (show CallK _ _ 12 _ _ _ _; refine CallK.rv (c_rightX u (Nat.le_trans (show u.e.l.length ≤ 70 from (few_len hu).1) (by decide)) (Nat.le_trans (show u.c.l.length ≤ 200 from (few_len hu).2.2.1) (by decide)) (Nat.le_trans (show u.g.l.length ≤ 300 from (few_len hu).2.2.2) (by decide)) (Nat.le_trans (show u.regs.length ≤ 260 from (few_len hu).2.1) (by decide)) h0) (by repeat' (first | exact trivial | exact .head _ | apply List.Mem.tail | apply And.intro)) (Nx.go ?_))
    | (show CallK _ _ 12 _ _ _ _; refine CallK.rv (c_rightX z2 (by rw [(sk_len hz2).1]; exact Nat.le_trans hB.1 (by decide)) (by rw [(sk_len hz2).2.1]; exact Nat.le_trans hB.2.1 (by decide)) (by rw [(sk_len hz2).2.2.1]; exact Nat.le_trans hB.2.2.1 (by decide)) (by rw [(sk_len hz2).2.2.2]; refine Nat.le_trans hB.2.2.2 (Nat.le_trans (List.length_take_le _ _) (by decide))) (r := true) (by rw [hz2]; exact hR)) (by repeat' (first | exact trivial | exact .head _ | apply List.Mem.tail | apply And.intro)) (Nx.go ?_))
    | (show CallK _ _ 8 [u.sv] _ _ _; rcases h0 : rightS u.sk)
    | (show RdB _ _ _; refine RdB.mk' (by repeat (first | exact .head _ | apply List.Mem.tail)) (Nx.go ?_))
    | (refine AR.i64 (by omega) ?_; conv => whnf)
    | (refine AR.u64 (by omega) ?_; conv => whnf)
    | (refine AR.u8 (by omega) ?_; conv => whnf)
    | (refine Ob.mk (by omega) ?_; conv => whnf)
    | (refine BR.mk (fun h => ?_) (fun h => ?_) <;> (first | rw [Bool.not_eq_true'] at h | rw [Bool.not_eq_false'] at h | skip) <;> (try rw [h]) <;> (first | replace h := of_decide_eq_true h | replace h := of_decide_eq_false h | replace h := eq_of_beq h | replace h := bne_iff_ne.1 h | replace h := beq_eq_false_iff_ne.1 h | replace h := bne_eq_false_iff_eq.1 h | skip) <;> conv => whnf)
  all_goals first | rfl | exact absurd (by rw [hz2]; exact hE) h | exact absurd hz h | exact absurd rfl h | exact absurd h hc2

theorem c_back (x : SkV) (t : List UInt8) (e : Errs) (hne : e.cm ≠ e.cn) : Ct Tryz.prog 3 [] [x.sv, .str t] (x.fs ++ gAll e) (Rv (.bool true)) := by
  rcases decR_cases (t.take 2000) with ⟨w2, q2, hD, hR, hE, hB⟩ | ⟨c2, hc2, hD⟩
  · exact c_backY x t e hne w2 q2 hD hR hE hB
  · exact c_backN x t e hne c2 hc2 hD
end Go.Proofs.YtpdpajafaifcjaaGreatDoor

/- CodeBack -/
namespace Go.Proofs.YtpdpajafaifcjaaGreatDoor
open Go.Proofs.YtpdpajafaifcjaaGreatDoor.W
set_option maxRecDepth 100000
set_option linter.unusedVariables false
open Go.ChangeShapes Go.WideShapes Go.RowKit

set_option maxRecDepth 100000 in
theorem codeBack_lifted (os : Os) (started : os.Started) (H : Type) (enc : TypeId × Value → H) :
    ReturnsInHanded {} Tryz.checked os 3 .any (fun w args => (Rows.codeBackSpec.pre enc Tryz.prog Tryz.f3 [] false w args ∧ laidMet Tryz.prog laidL w) ∧ sizedMet enc Tryz.prog Tryz.f3 (OpenSpec.ofChange Rows.codeBackSpec) false w args)
      (Rows.codeBackSpec.post enc Tryz.prog Tryz.f3 false true false false) := by
  refine returnsInHanded_of_change_and (C := Tryz.checked) (X := fun w _ => laidMet Tryz.prog laidL w) (fun _ _ _ hh h => h.of_heap hh) Tryz.own started (by kernel_rfl) Tryz.func3
    (ChangeSpec.witness_at (enc := enc) (C := Tryz.checked) (os := os) (X := fun w _ => laidMet Tryz.prog laidL w) false (laidWorld os) #[sk0V, .string ⟨#[]⟩] 8 rfl (by kernel_rfl) (by kernel_rfl) (by kernel_rfl) (by kernel_rfl) (by kernel_rfl) (laidWorld_met os _)) ?_
  intro W base args ds gs before hval0 hW _ _ hL _
  have hval : ∀ (j : Nat) t v, Tryz.f3.params[j]? = some t → args[j]? = some v → Value.okWide Tryz.prog W .any base t v := hval0
  have hW' := hW
  obtain ⟨p, q, hA0, hV, rfl, hfz, hnd⟩ := hW
  have hA : DataW.TrodAll enc Tryz.prog W 0 (fun _ => true) true Tryz.f3.params.toList args.toList ds p := hA0
  rw [Tryz.params3] at hA hval
  obtain ⟨rfl, rfl⟩ := trodVars_none hV
  obtain ⟨v0, vs0, d0, ds0, p0, q0, hargs, rfl, rfl, h0, r0⟩ := trodAll_cons hA
  obtain ⟨v1, vs1, d1, ds1, p1, q1, rfl, rfl, rfl, h1, r1⟩ := trodAll_cons r0
  obtain ⟨rfl, rfl, rfl⟩ := trodAll_nil r1
  obtain rfl : args = #[v0, v1] := by cases args; simp_all
  obtain ⟨er, herr, hne⟩ := errs_of_laid hL
  clear hA0 hval0
  obtain ⟨cs0, rfl, _⟩ := okWide_struct Tryz.underlying33 (hval 0 33 v0 rfl rfl)
  obtain ⟨fuel0, hf0⟩ := h0
  obtain ⟨x0, hx0, hh0⟩ := open_sk hf0
  obtain rfl : cs0 = (dens x0.cs).toArray := by rw [← hx0]; simp [Value.cells]
  obtain ⟨t1, rfl⟩ := okWide_string Tryz.underlying9 (hval 1 9 v1 rfl rfl)
  refine (Ct.run (c_back x0 t1.data.toList er hne) (Hold.append hh0 herr)).mono fun e W' ⟨r, bs, Ψ, he, hk, hr⟩ => ?_
  have hr' : r = .bool true := hr
  subst hr'
  subst he
  exact ⟨_, rfl, law_post (tb := 4) Tryz.kids Tryz.full hW' rfl (by rw [Tryz.params3]; decide) (by kernel_rfl) Tryz.underlying4 rfl hk⟩
theorem codeBack_holds : Rows.CodeBackSaid :=
  OpenClaim.holds_of_wide 3 Tryz.f3 rfl rfl rfl rfl rfl rfl rfl ⟨rfl, rfl, rfl, rfl, rfl⟩ rfl rfl rfl rfl rfl (by kernel_rfl) Tryz.func3 (by kernel_rfl)
    (of_decide_eq_true (by kernel_rfl)) (by unfold Func.isWrapper; first | (rw [if_pos (by decide +kernel)]; kernel_rfl) | (rw [if_neg (by decide +kernel)]; exact ⟨rfl, rfl⟩))
    (fun os started H enc _ => codeBack_lifted os started H enc)

open Go
/-- the card -/
theorem codeBack_card : Rows.CodeBackCardSaid :=
  Claim7.holds_tied_plain_at .later [] [.sentinel, .sentinel, .sentinel, .sentinel] true (true, "72c5f92099248871d526c008d46978becbfdf622f05f0ba5f8ceb9ec19125f32") true
    codeBack_holds (fun _ h => by cases h) (by kernel_rfl) (fun _ h => by cases h) codeBack_row_tie rfl ⟨rfl, rfl⟩ (by kernel_rfl) rfl
    (fun f fn hf hfn => by
      obtain rfl : f = 3 := Option.some.inj ((show Tryz.prog.funcNamed "aviary/aviarylaw11.CodeBack" = some 3 by kernel_rfl).symm.trans hf) |>.symm
      obtain rfl : fn = Tryz.f3 := (Option.some.inj (Tryz.func3.symm.trans hfn)).symm
      exact ⟨by kernel_rfl, fun j t ht => by
        rw [Tryz.params3] at ht
        match j, ht with
        | 0, ht => obtain rfl : t = 33 := (Option.some.inj ht).symm; exact (show Tryz.prog.wantsStandIn 33 = false by kernel_rfl)
        | 1, ht => obtain rfl : t = 9 := (Option.some.inj ht).symm; exact (show Tryz.prog.wantsStandIn 9 = false by kernel_rfl)
        | j + 2, ht => simp at ht⟩)
    (by kernel_rfl)
end Go.Proofs.YtpdpajafaifcjaaGreatDoor
