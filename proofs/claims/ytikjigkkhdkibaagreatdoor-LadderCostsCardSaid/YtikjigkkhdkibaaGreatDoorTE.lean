/- YtikjigkkhdkibaaGreatDoorTE: a part of the proofs of given statements of this seat; no condition beyond them. -/
import Derived.Test.YtikjigkkhdkibaaGreatDoorTD
import Derived.Test.YtikjigkkhdkibaaGreatDoorWB
import Derived.Test.YtikjigkkhdkibaaGreatDoorTie
import Derived.LaidLaws
import Derived.LaidHandle
import Derived.Stop.Joined
import Derived.WalkKit
import Derived.LaidEql
import Derived.Stop.Asserts
import Derived.RowKitTokens
set_option linter.unusedVariables false
/- ladder: M27 -/
namespace Go.Proofs.YtikjigkkhdkibaaGreatDoor
open Go.Proofs.YtikjigkkhdkibaaGreatDoor.W
set_option maxRecDepth 100000
set_option linter.unusedVariables false
theorem hv_of {x : Sk} (h : rightS x = true) : ∃ z : Hv, z.sk = x := by
  let y : SkV := ⟨x.kind, x.level, ⟨x.e, none, 0⟩, x.bits, x.regs, x.rows, x.cols, ⟨x.c, none, 0⟩, x.fine, ⟨x.g, none, 0⟩⟩
  exact ⟨hvOf y, (hvOf_ok (x := y) h).2.1⟩
theorem addS_props {x : Sk} (h : rightS x = true) (i : Itm) : (addS x i).kind = x.kind ∧ ((addS x i).level = x.level ∨ ((addS x i).kind = 1 ∧ (addS x i).level ≠ 0)) := by
  obtain ⟨z, rfl⟩ := hv_of h
  have ho := Hv.ok_of h
  cases z with
  | S y =>
    show (addS (skE y.l) i).kind = 1 ∧ ((addS (skE y.l) i).level = 0 ∨ ((addS (skE y.l) i).kind = 1 ∧ (addS (skE y.l) i).level ≠ 0))
    rw [addS_E]
    split
    · exact ⟨rfl, .inl rfl⟩
    · exact ⟨rfl, .inr ⟨rfl, show ¬ (8 : Int) - (7 : Nat) = 0 by decide⟩⟩
  | R b r =>
    show (addS (skR b r) i).kind = 1 ∧ ((addS (skR b r) i).level = 8 - b ∨ ((addS (skR b r) i).kind = 1 ∧ (addS (skR b r) i).level ≠ 0))
    rw [addS_R r i (by have := ho.2; omega)]
    exact ⟨rfl, .inl rfl⟩
  | C L y => exact ⟨rfl, .inl rfl⟩
  | G L y => exact ⟨rfl, .inl rfl⟩
theorem lowS_props {x : Sk} (h : rightS x = true) : (lowS x).kind = x.kind ∧ (lowS x).level = x.level + 1 := by
  obtain ⟨z, rfl⟩ := hv_of h
  have ho := Hv.ok_of h
  cases z with
  | S y => exact ⟨rfl, rfl⟩
  | R b r =>
    show (lowS (skR b r)).kind = 1 ∧ (lowS (skR b r)).level = 8 - b + 1
    rw [lowS_R r (by have := ho.2; omega)]
    refine ⟨rfl, ?_⟩
    show (8 : Int) - (b - 1 : Nat) = _
    have := ho.2; omega
  | C L y => exact ⟨rfl, rfl⟩
  | G L y => exact ⟨rfl, rfl⟩
theorem toS_props {x : Sk} {m : Nat} (h : LowOk x m) : (toS m x).kind = x.kind ∧ (toS m x).level = x.level + m := by
  induction m with
  | zero => exact ⟨rfl, by show x.level = _; simp⟩
  | succ m ih =>
    obtain ⟨h1, h2⟩ := ih fun j hj => h j (by omega)
    obtain ⟨h3, h4⟩ := lowS_props (h m (by omega)).1
    rw [toS_succ]
    exact ⟨h3.trans h1, by rw [h4, h2]; omega⟩
theorem lvl_ok {z : Hv} {lv : Int} (h : z.sk.level = lv ∨ (z.sk.kind = 1 ∧ z.sk.level ≠ 0)) : lv = z.sk.level ∨ ∃ b r, z = .R b r := by
  cases z with
  | S x => exact .inl (h.elim Eq.symm fun h => absurd rfl h.2)
  | R b r => exact .inr ⟨b, r, rfl⟩
  | C L x => exact .inl (h.elim Eq.symm fun h => absurd h.1 (show ¬ (2 : Int) = 1 by decide))
  | G L x => exact .inl (h.elim Eq.symm fun h => absurd h.1 (show ¬ (3 : Int) = 1 by decide))

theorem c_wadd (w0 : Hv) (k lv : Int) (l : Sli Itm) (hR : ∀ j, j < l.l.length → rightS ((l.l.take j).foldl addS w0.sk) = true) : Ct Tryz.prog 56 [] [.agg [w0.sv, .int .i64 k, .int .i64 lv], l.sv] [w0.f, l.f encItm 2] (Rs (fun z : Hv => .tup [.agg [z.sv, .int .i64 k, .int .i64 lv], .raw .nilIface]) (fun _ => []) (fun z => [z.f]) (fun z => z.sk = l.l.foldl addS w0.sk)) := by
  refine Ct.len (enc := encItm) (L := l.l) (List.Mem.tail _ (List.Mem.head _)) fun hl => ?_
  refine Ct.post (Ct.of Tryz.func56 rfl (n := 31) rfl rfl rfl ?_)
  conv => whnf
  repeat' first
    | (refine Ob.mk rfl ?_; conv => whnf)
    | (refine Nx.mk ?_; conv => whnf)
    | (refine BR.yes ?_; conv => whnf)
    | (refine BR.no ?_; conv => whnf)
    | (intro bk; conv => whnf)
    | (show SemC _ _ _ (.loop (.seq (.region 2 _ _) _)) _ _ _ _ _; refine SemC.loopNV (c := (.seq (.region 2 _ _) _)) (fun j : Nat × Hv => [(12, .int .i64 j.1)]) (fun lb j => setCells lb 0 [j.2.sv, .int .i64 k, .int .i64 lv]) (fun Φ j => j.2.f :: Φ) (fun j => j.1 ≤ l.l.length ∧ j.2.sk = (l.l.take j.1).foldl addS w0.sk) (fun j => l.l.length - j.1) (0, w0) ?_; (conv => whnf); refine LoopQ.mk ?_ ⟨(by repeat (first | exact trivial | refine ⟨rfl, ?_⟩ | refine ⟨congrArg (Value.int _) (by omega), ?_⟩)), (Imp.to 2 rfl (by repeat' (first | exact trivial | exact .head _ | apply List.Mem.tail | apply And.intro)))⟩ (fun j hi => ?_); rotate_left; obtain ⟨i, z⟩ := j; dsimp only at hi ⊢; rotate_left)
    | (show Exists _; refine Exists.intro ((i + 1, y)) ⟨?_, ?_, rfl, ⟨(by repeat (first | exact trivial | refine ⟨rfl, ?_⟩ | refine ⟨congrArg (Value.int _) (by omega), ?_⟩)), Imp.to 2 rfl (by repeat' (first | exact trivial | exact .head _ | apply List.Mem.tail | apply And.intro))⟩⟩)
    | (show InvK _ _ _ _ _; refine inv_add _ ?_; conv => whnf)
    | (have h8 := hR i (by omega); rw [← hi.2] at h8; show CallK _ _ (Hv.addF _) _ _ _ _; refine CallK.rf (c_addI z h8 xe) (by repeat' (first | exact trivial | exact .head _ | apply List.Mem.tail | apply And.intro)) (fun y hy => Nx.go ?_) z.isFn_add)
    | (show Post _ _ _ _ _; exact Rs.post z rfl (Imp.fs (by repeat' (first | exact trivial | exact .head _ | apply List.Mem.tail | apply And.intro))) (by have h9 := hi.2; rw [List.take_of_length_le (by omega)] at h9; exact h9))
    | (refine Idx.nat ?_; conv => whnf)
    | (refine Idx.is _ rfl ?_; conv => whnf)
    | (show HasP _ _ _ _ _ _; refine HasP.mk' (by repeat (first | exact .head _ | apply List.Mem.tail)) (Nx.go ?_))
    | (show RdE _ _ _ _ _ _ _; refine RdE.s (by repeat (first | exact .head _ | apply List.Mem.tail)) (by omega) (fun xe hxe => Nx.go ?_))
    | (show RdB _ _ _; refine RdB.mk' (by repeat (first | exact .head _ | apply List.Mem.tail)) (Nx.go ?_))
    | (refine AR.i64 (by omega) ?_; conv => whnf)
    | (refine AR.u64 (by omega) ?_; conv => whnf)
    | (refine AR.u8 (by omega) ?_; conv => whnf)
    | (refine Ob.mk (by omega) ?_; conv => whnf)
    | (refine BR.mk (fun h => ?_) (fun h => ?_) <;> (first | rw [Bool.not_eq_true'] at h | rw [Bool.not_eq_false'] at h | skip) <;> (try rw [h]) <;> (first | replace h := of_decide_eq_true h | replace h := of_decide_eq_false h | replace h := eq_of_beq h | replace h := bne_iff_ne.1 h | replace h := beq_eq_false_iff_ne.1 h | replace h := bne_eq_false_iff_eq.1 h | skip) <;> conv => whnf)
  · exact ⟨Nat.zero_le _, rfl⟩
  · exact ⟨by dsimp only; omega, by show y.sk = (l.l.take (i + 1)).foldl addS w0.sk; rw [take_snoc hxe, List.foldl_append, ← hi.2]; exact hy⟩
  · dsimp only; omega

theorem one_fold {ys : List Itm} {i : Itm} (h : ys = [i]) (x : Sk) : ys.foldl addS x = addS x i := by subst h; rfl
theorem one_all {ys : List Itm} {i : Itm} (h : ys = [i]) {x : Sk} (hr : rightS x = true) (j : Nat) (hj : j < ys.length) : rightS ((ys.take j).foldl addS x) = true := by
  subst h
  obtain rfl : j = 0 := by simpa using hj
  exact hr
theorem LowOk.is {x y : Sk} {m : Nat} (h : LowOk x m) (e : y = x) : LowOk y m := e ▸ h
theorem right_is {x y : Sk} (h : rightS x = true) (e : y = x) : rightS y = true := e ▸ h

theorem c_Add (x : SkV) (hr : rightS x.sk = true) (i : Itm) (hz : rightS (addS x.sk i) = true) : Ct Tryz.prog 25 [] [x.sv, .agg [.int .u64 i.h.toNat, .int .u64 i.n.toNat]] x.fs (Rs (fun z : SkV => .tup [z.sv, .int .i64 0]) (fun _ => []) SkV.fs (fun z => z.sk = addS x.sk i)) := by
  refine Ct.post (Ct.of Tryz.func25 rfl (n := 29) rfl rfl rfl ?_)
  conv => whnf
  repeat' first
    | (show SemO _ _ (.buildSlice _ _ #[(0, .tmp 21)]) _ _ _ _ _; refine SemO.lit ?_; (conv => whnf); show BsV _ _ _ _ _; refine BsV.s [i] (by repeat (first | exact .nil | refine .cons (by first | rfl | exact encB_of (by omega) | exact encU_U (by omega)) ?_)) (fun xo _ => okItm xo) (fun ys hys => Nx.go ?_))
    | (refine Ob.mk rfl ?_; conv => whnf)
    | (refine Nx.mk ?_; conv => whnf)
    | (refine BR.yes ?_; conv => whnf)
    | (refine BR.no ?_; conv => whnf)
    | (intro bk; conv => whnf)
    | (show CallK _ _ 42 _ _ _ _; refine CallK.rf (c_startJ x hr) (by repeat' (first | exact trivial | exact .head _ | apply List.Mem.tail | apply And.intro)) (fun wk hh => Nx.go ?_))
    | (show CallK _ _ 56 _ _ _ _; refine CallK.rf (c_wadd wk x.kind x.level ys (one_all hys (right_is hr hh))) (by repeat' (first | exact trivial | exact .head _ | apply List.Mem.tail | apply And.intro)) (fun y hy => Nx.go ?_))
    | (show CallK _ _ 43 _ _ _ _; refine CallK.rf (c_ended y (right_is hz (hy.trans ((one_fold hys _).trans (by rw [hh])))) x.kind x.level (by rw [hy, one_fold hys, hh]; exact (addS_props hr i).1.symm) (lvl_ok (by rw [hy, one_fold hys, hh]; exact (addS_props hr i).2))) (by repeat' (first | exact trivial | exact .head _ | apply List.Mem.tail | apply And.intro)) (fun v hv => Nx.go ?_))
    | (show Post _ _ _ _ _; exact Rs.post v rfl (Imp.fs (by repeat' (first | exact trivial | exact .head _ | apply List.Mem.tail | apply And.intro))) (by rw [hv, hy, one_fold hys, hh]))
    | (show RdB _ _ _; refine RdB.mk' (by repeat (first | exact .head _ | apply List.Mem.tail)) (Nx.go ?_))
    | (refine AR.i64 (by omega) ?_; conv => whnf)
    | (refine AR.u64 (by omega) ?_; conv => whnf)
    | (refine AR.u8 (by omega) ?_; conv => whnf)
    | (refine Ob.mk (by omega) ?_; conv => whnf)
    | (refine BR.mk (fun h => ?_) (fun h => ?_) <;> (first | rw [Bool.not_eq_true'] at h | rw [Bool.not_eq_false'] at h | skip) <;> (try rw [h]) <;> (first | replace h := of_decide_eq_true h | replace h := of_decide_eq_false h | replace h := eq_of_beq h | replace h := bne_iff_ne.1 h | replace h := beq_eq_false_iff_ne.1 h | replace h := bne_eq_false_iff_eq.1 h | skip) <;> conv => whnf)

theorem c_To (x : SkV) (hr : rightS x.sk = true) (ot : Int) (m : Nat) (hm : x.level + m = max x.level ot) (hb : ot ≤ botI x.kind) (hR : LowOk x.sk m) (hz : rightS (toS m x.sk) = true) : Ct Tryz.prog 17 [] [x.sv, .int .i64 ot] x.fs (Rs (fun z : SkV => .tup [z.sv, .int .i64 0]) (fun _ => []) SkV.fs (fun z => z.sk = toS m x.sk)) := by
  have hb4 := botI_le x.kind
  have hl0 : 0 ≤ x.level := by (have h9 := hr; simp only [rightS, Bool.and_eq_true, decide_eq_true_eq] at h9; exact h9.1.1.2.1)
  refine Ct.post (Ct.of Tryz.func17 rfl (n := 41) rfl rfl rfl ?_)
  conv => whnf
  repeat' first
    | (refine Ob.mk rfl ?_; conv => whnf)
    | (refine Nx.mk ?_; conv => whnf)
    | (refine BR.yes ?_; conv => whnf)
    | (refine BR.no ?_; conv => whnf)
    | (intro bk; conv => whnf)
    | (show CallK _ _ 42 _ _ _ _; refine CallK.rf (c_startJ x hr) (by repeat' (first | exact trivial | exact .head _ | apply List.Mem.tail | apply And.intro)) (fun wk hh => Nx.go ?_))
    | (show CallK _ _ 21 _ _ _ _; refine CallK.rv (c_bot x.kind) (by repeat' (first | exact trivial | exact .head _ | apply List.Mem.tail | apply And.intro)) (Nx.go ?_))
    | (show CallK _ _ 44 _ _ _ _; refine CallK.rf (c_wto wk x.kind x.level ot m hm ⟨hl0, by omega⟩ (hR.is hh)) (by repeat' (first | exact trivial | exact .head _ | apply List.Mem.tail | apply And.intro)) (fun y hy => Nx.go ?_))
    | (show CallK _ _ 43 _ _ _ _; refine CallK.rf (c_ended y (right_is hz (hy.trans (by rw [hh]))) x.kind (x.level + m) (by rw [hy, hh]; exact (toS_props hR).1.symm) (lvl_ok (by rw [hy, hh]; exact .inl (toS_props hR).2))) (by repeat' (first | exact trivial | exact .head _ | apply List.Mem.tail | apply And.intro)) (fun v hv => Nx.go ?_))
    | (exact absurd h (by omega))
    | (show Post _ _ _ _ _; exact Rs.post v rfl (Imp.fs (by repeat' (first | exact trivial | exact .head _ | apply List.Mem.tail | apply And.intro))) (by rw [hv, hy, hh]))
    | (show RdB _ _ _; refine RdB.mk' (by repeat (first | exact .head _ | apply List.Mem.tail)) (Nx.go ?_))
    | (refine AR.i64 (by omega) ?_; conv => whnf)
    | (refine AR.u64 (by omega) ?_; conv => whnf)
    | (refine AR.u8 (by omega) ?_; conv => whnf)
    | (refine Ob.mk (by omega) ?_; conv => whnf)
    | (refine BR.mk (fun h => ?_) (fun h => ?_) <;> (first | rw [Bool.not_eq_true'] at h | rw [Bool.not_eq_false'] at h | skip) <;> (try rw [h]) <;> (first | replace h := of_decide_eq_true h | replace h := of_decide_eq_false h | replace h := eq_of_beq h | replace h := bne_iff_ne.1 h | replace h := beq_eq_false_iff_ne.1 h | replace h := bne_eq_false_iff_eq.1 h | skip) <;> conv => whnf)
end Go.Proofs.YtikjigkkhdkibaaGreatDoor

/- ladder: M28 -/
namespace Go.Proofs.YtikjigkkhdkibaaGreatDoor
open Go.Proofs.YtikjigkkhdkibaaGreatDoor.W
set_option maxRecDepth 100000
set_option linter.unusedVariables false
theorem mrg_props {x y : Sk} (h : rightS x = true) (k : rightS y = true) (hk : x.kind = y.kind) (hl : x.level = y.level) : (mrg1 x y).kind = x.kind ∧ ((mrg1 x y).level = x.level ∨ ((mrg1 x y).kind = 1 ∧ (mrg1 x y).level ≠ 0)) := by
  obtain ⟨z, rfl⟩ := hv_of h
  obtain ⟨w, rfl⟩ := hv_of k
  have ho := Hv.ok_of h
  have ko := Hv.ok_of k
  cases z with
  | S u =>
    cases w with
    | S v =>
      show (mrg1 (skE u.l) (skE v.l)).kind = 1 ∧ ((mrg1 (skE u.l) (skE v.l)).level = 0 ∨ ((mrg1 (skE u.l) (skE v.l)).kind = 1 ∧ (mrg1 (skE u.l) (skE v.l)).level ≠ 0))
      rw [mrg_E]
      split
      · exact ⟨rfl, .inl rfl⟩
      · exact ⟨rfl, .inr ⟨rfl, show ¬ (8 : Int) - (7 : Nat) = 0 by decide⟩⟩
    | R b r => change (0 : Int) = 8 - b at hl; have := ko.2; omega
    | C L v => cases hk
    | G L v => cases hk
  | R b r =>
    cases w with
    | S v => change (8 : Int) - b = 0 at hl; have := ho.2; omega
    | R c t =>
      show (mrg1 (skR b r) (skR c t)).kind = 1 ∧ ((mrg1 (skR b r) (skR c t)).level = 8 - b ∨ _)
      rw [mrg_R r t c (by have := ho.2; omega)]
      exact ⟨rfl, .inl rfl⟩
    | C L v => cases hk
    | G L v => cases hk
  | C L u =>
    cases w with
    | S v => cases hk
    | R c t => cases hk
    | C M v => exact ⟨rfl, .inl rfl⟩
    | G M v => cases hk
  | G L u =>
    cases w with
    | S v => cases hk
    | R c t => cases hk
    | C M v => cases hk
    | G M v => exact ⟨rfl, .inl rfl⟩
theorem lowOk1 {x : Sk} (h : rightS x = true) (hb : x.level < botI x.kind) : LowOk x 1 := fun j hj => by
  obtain rfl : j = 0 := by omega
  exact ⟨h, hb⟩
theorem right_lv {x : Sk} (h : rightS x = true) : 0 ≤ x.level ∧ x.level ≤ botI x.kind := by
  simp only [rightS, Bool.and_eq_true, decide_eq_true_eq] at h; exact h.1.1.2

theorem c_Low (x : SkV) (hr : rightS x.sk = true) (hb : x.level < botI x.kind) (hz : rightS (lowS x.sk) = true) : Ct Tryz.prog 15 [] [x.sv] x.fs (Rs (fun z : SkV => .tup [z.sv, .int .i64 0]) (fun _ => []) SkV.fs (fun z => z.sk = lowS x.sk)) := by
  have hl0 := right_lv hr
  have hb4 := botI_le x.kind
  have hl1 : 0 ≤ x.level := hl0.1
  refine Ct.post (Ct.of Tryz.func15 rfl (n := 11) rfl rfl rfl ?_)
  conv => whnf
  repeat' first
    | (refine Ob.mk rfl ?_; conv => whnf)
    | (refine Nx.mk ?_; conv => whnf)
    | (intro bk; conv => whnf)
    | (show CallK _ _ 17 _ _ _ _; refine CallK.rf (c_To x hr (x.level + 1) 1 (by omega) (by omega) (lowOk1 hr hb) hz) (by repeat' (first | exact trivial | exact .head _ | apply List.Mem.tail | apply And.intro)) (fun v hv => Nx.go ?_))
    | (show Post _ _ _ _ _; exact Rs.post v rfl (Imp.fs (by repeat' (first | exact trivial | exact .head _ | apply List.Mem.tail | apply And.intro))) hv)
    | (show RdB _ _ _; refine RdB.mk' (by repeat (first | exact .head _ | apply List.Mem.tail)) (Nx.go ?_))
    | (refine AR.i64 (by omega) ?_; conv => whnf)
    | (refine AR.u64 (by omega) ?_; conv => whnf)
    | (refine AR.u8 (by omega) ?_; conv => whnf)
    | (refine Ob.mk (by omega) ?_; conv => whnf)

theorem c_Mrg (x y : SkV) (hx : rightS x.sk = true) (hy : rightS y.sk = true) (hk : y.kind = x.kind) (m n : Nat) (hm : x.level + m = max x.level y.level) (hn : y.level + n = max y.level x.level) (hR : LowOk x.sk m) (hS : LowOk y.sk n) (r1 : rightS (toS m x.sk) = true) (r2 : rightS (toS n y.sk) = true) (hz : rightS (mrg1 (toS m x.sk) (toS n y.sk)) = true) : Ct Tryz.prog 13 [] [x.sv, y.sv] (x.fs ++ y.fs) (Rs (fun z : SkV => .tup [z.sv, .int .i64 0]) (fun _ => []) SkV.fs (fun z => z.sk = mrg1 (toS m x.sk) (toS n y.sk))) := by
  have hl0 : 0 ≤ x.level ∧ x.level ≤ botI x.kind := right_lv hx
  have hm0 : 0 ≤ y.level ∧ y.level ≤ botI y.kind := right_lv hy
  have hb4 := botI_le x.kind
  have hb5 := botI_le y.kind
  obtain ⟨p1, p2⟩ := toS_props hR
  obtain ⟨p3, p4⟩ := toS_props hS
  have hkk : (toS m x.sk).kind = (toS n y.sk).kind := by rw [p1, p3]; exact hk.symm
  have hll : (toS m x.sk).level = (toS n y.sk).level := by rw [p2, p4]; show x.level + m = y.level + n; omega
  obtain ⟨q1, q2⟩ := mrg_props r1 r2 hkk hll
  refine Ct.post (Ct.of Tryz.func13 rfl (n := 87) rfl rfl rfl ?_)
  conv => whnf
  repeat' first
    | (show BR (x.kind != y.kind) _ _; refine BR.noK (by rw [hk]; exact bne_self_eq_false _) ?_; conv => whnf)
    | (refine Ob.mk rfl ?_; conv => whnf)
    | (refine Nx.mk ?_; conv => whnf)
    | (refine BR.yes ?_; conv => whnf)
    | (refine BR.no ?_; conv => whnf)
    | (intro bk; conv => whnf)
    | (show CallK _ _ 42 _ _ _ _; refine CallK.rf (c_startJ x hx) (by repeat' (first | exact trivial | exact .head _ | apply List.Mem.tail | apply And.intro)) (fun wk hh => Nx.go ?_))
    | (show CallK _ _ 42 _ _ _ _; refine CallK.rf (c_startJ y hy) (by repeat' (first | exact trivial | exact .head _ | apply List.Mem.tail | apply And.intro)) (fun wl hg => Nx.go ?_))
    | (show CallK _ _ 44 _ _ _ _; refine CallK.rf (c_wto wk x.kind x.level y.level m hm ⟨hl0.1, by omega⟩ (hR.is hh)) (by repeat' (first | exact trivial | exact .head _ | apply List.Mem.tail | apply And.intro)) (fun wm h1 => Nx.go ?_))
    | (show CallK _ _ 44 _ _ _ _; refine CallK.rf (c_wto wl y.kind y.level x.level n hn ⟨hm0.1, by omega⟩ (hS.is hg)) (by repeat' (first | exact trivial | exact .head _ | apply List.Mem.tail | apply And.intro)) (fun wn h2 => Nx.go ?_))
    | (show CallK _ _ 43 _ _ _ _; refine CallK.rf (c_ended u (right_is hz (by rw [hu, h1, h2, hh, hg])) x.kind (x.level + m) (by rw [hu, h1, h2, hh, hg, q1, p1]; rfl) (lvl_ok (by rw [hu, h1, h2, hh, hg]; exact q2.imp (fun e => e.trans p2) id))) (by repeat' (first | exact trivial | exact .head _ | apply List.Mem.tail | apply And.intro)) (fun v hv => Nx.go ?_))
    | (show InvK _ _ _ _ _; refine inv_merge _ ?_; conv => whnf)
    | (show CallK _ _ (Hv.mrgF _) _ _ _ _; refine CallK.rf (c_mrgI wm wn (right_is r1 (by rw [h1, hh])) (right_is r2 (by rw [h2, hg])) (by rw [h1, h2, hh, hg]; exact hkk) (by rw [h1, h2, hh, hg]; exact hll)) (by repeat' (first | exact trivial | exact .head _ | apply List.Mem.tail | apply And.intro)) (fun u hu => Nx.go ?_) wm.isFn_mrg)
    | (show Post _ _ _ _ _; exact Rs.post v rfl (Imp.fs (by repeat' (first | exact trivial | exact .head _ | apply List.Mem.tail | apply And.intro))) (by rw [hv, hu, h1, h2, hh, hg]))
    | (show RdB _ _ _; refine RdB.mk' (by repeat (first | exact .head _ | apply List.Mem.tail)) (Nx.go ?_))
    | (refine AR.i64 (by omega) ?_; conv => whnf)
    | (refine AR.u64 (by omega) ?_; conv => whnf)
    | (refine AR.u8 (by omega) ?_; conv => whnf)
    | (refine Ob.mk (by omega) ?_; conv => whnf)
    | (refine BR.mk (fun h => ?_) (fun h => ?_) <;> (first | rw [Bool.not_eq_true'] at h | rw [Bool.not_eq_false'] at h | skip) <;> (try rw [h]) <;> (first | replace h := of_decide_eq_true h | replace h := of_decide_eq_false h | replace h := eq_of_beq h | replace h := bne_iff_ne.1 h | replace h := beq_eq_false_iff_ne.1 h | replace h := bne_eq_false_iff_eq.1 h | skip) <;> conv => whnf)
end Go.Proofs.YtikjigkkhdkibaaGreatDoor

/- ladder: M29 -/
namespace Go.Proofs.YtikjigkkhdkibaaGreatDoor
open Go.Proofs.YtikjigkkhdkibaaGreatDoor.W
set_option maxRecDepth 100000
set_option linter.unusedVariables false
theorem bot_is {k : Int} (hk : k = 1 ∨ k = 2 ∨ k = 3) : botI k = ((if k = 1 then 4 else 3 : Nat) : Int) := by
  rcases hk with rfl | rfl | rfl <;> rfl
theorem isOf_right {k : Int} {L : Nat} {S : List Itm} {x : Sk} (h : IsOf k L S x) : rightS x = true := by
  rcases h with ⟨rfl, hL, h⟩ | ⟨rfl, hL, c, rfl, h⟩ | ⟨rfl, hL, g, rfl, h⟩
  · rcases h with ⟨h1, h2, rfl⟩ | ⟨r, M, rfl, h2, h3, h4, h5⟩
    · have e : exactRight (setE S) = true := by simp only [exactRight, Bool.and_eq_true, decide_eq_true_eq]; exact ⟨by omega, rises_setE S⟩
      have e2 : okS (skE (setE S)) = true := e
      have e3 : endS (skE (setE S)) = skE (setE S) := rfl
      rw [rightS, e2, e3]
      simp only [Bool.and_true, decide_true, Bool.and_eq_true, decide_eq_true_eq]
      exact ⟨.inl rfl, Int.le_refl 0, show (0 : Int) ≤ botI 1 from by decide⟩
    · have hl : ¬ (skR (8 - M) r).level = 0 := lv_R r (by omega)
      have hv : (skR (8 - M) r).level = M := by show (8 : Int) - (8 - M : Nat) = M; omega
      have e2 : okS (skR (8 - M) r) = true := by
        rw [okS, if_pos (show (skR (8 - M) r).kind = 1 from rfl), if_neg hl, Bool.and_eq_true, decide_eq_true_eq, hv]
        exact ⟨h2.right (by omega), by show ((8 - M : Nat) : Int) = _; omega⟩
      have e3 : endS (skR (8 - M) r) = skR (8 - M) r := by
        rw [endS, if_pos (show (skR (8 - M) r).kind = 1 from rfl), if_neg hl]; rfl
      rw [rightS, e2, e3, hv]
      simp only [Bool.and_true, decide_true, Bool.and_eq_true, decide_eq_true_eq]
      exact ⟨.inl rfl, by omega, by show (M : Int) ≤ botI 1; have e : botI 1 = 4 := rfl; rw [e]; omega⟩
  · have hv : (skC L (32 / 2 ^ L) c).level = L := rfl
    have e2 : okS (skC L (32 / 2 ^ L) c) = true := by
      show (cmsRight 2 ((32 / 2 ^ L : Nat) : Int) c && decide ((2 : Int) = 2) && decide (((32 / 2 ^ L : Nat) : Int) = _)) = true
      rw [h.right hL, hv]
      simp only [Bool.true_and, decide_true, decide_eq_true_eq]
      have : L = 0 ∨ L = 1 ∨ L = 2 ∨ L = 3 := by omega
      rcases this with rfl | rfl | rfl | rfl <;> decide
    have e3 : endS (skC L (32 / 2 ^ L) c) = skC L (32 / 2 ^ L) c := rfl
    rw [rightS, e2, e3, hv]
    simp only [Bool.and_true, decide_true, Bool.and_eq_true, decide_eq_true_eq]
    exact ⟨.inr (.inl rfl), by omega, by show (L : Int) ≤ botI 2; have e : botI 2 = 3 := rfl; rw [e]; omega⟩
  · have hv : (skG L (3 - L) g).level = L := rfl
    have e2 : okS (skG L (3 - L) g) = true := by
      show (histRight ((3 - L : Nat) : Int) g && decide (((3 - L : Nat) : Int) = _)) = true
      rw [h.right_ (by omega), hv]
      simp only [Bool.true_and, decide_eq_true_eq]; omega
    have e3 : endS (skG L (3 - L) g) = skG L (3 - L) g := rfl
    rw [rightS, e2, e3, hv]
    simp only [Bool.and_true, decide_true, Bool.and_eq_true, decide_eq_true_eq]
    exact ⟨.inr (.inr rfl), by omega, by show (L : Int) ≤ botI 3; have e : botI 3 = 3 := rfl; rw [e]; omega⟩
theorem isOf_lowOk {k : Int} {n : Nat} {S : List Itm} {x : Sk} (h : IsOf k n S x) (hx : x.level = n) (m : Nat) (hm : n + m ≤ (if k = 1 then 4 else 3)) : LowOk x m ∧ rightS (toS m x) = true := by
  have key : ∀ j, j ≤ m → IsOf k (n + j) S (toS j x) ∧ (toS j x).level = (n + j : Nat) := fun j hj => h.to hx j (by omega)
  refine ⟨fun j hj => ?_, isOf_right (key m (Nat.le_refl _)).1⟩
  obtain ⟨h1, h2⟩ := key j (by omega)
  obtain ⟨_, _, _, h3, _, h4, _⟩ := h1.lev
  refine ⟨isOf_right h1, ?_⟩
  rw [h2, h3, bot_is h4]; omega
/-- what a sketch costs -/
def costS (x : Sk) : Int := 16 + (8 * x.e.length + x.regs.length + 8 * x.c.length + 16 * x.g.length : Nat)

theorem c_new1  : Ct Tryz.prog 27 [] [.int .i64 1] [] (Rs (fun z : SkV => .tup [z.sv, .int .i64 0]) (fun _ => []) SkV.fs (fun z => z.sk = newS 1)) := by
  refine Ct.post (Ct.of Tryz.func27 rfl (n := 25) rfl rfl rfl ?_)
  conv => whnf
  repeat' first
    | (refine Ob.mk rfl ?_; conv => whnf)
    | (refine Nx.mk ?_; conv => whnf)
    | (refine BR.yes ?_; conv => whnf)
    | (refine BR.no ?_; conv => whnf)
    | (intro bk; conv => whnf)
    | (show Post _ _ _ _ _; exact Rs.post ⟨1, 0, nilU, 0, [], 0, 0, nilU, 0, nilB⟩ rfl (Imp.trans (Imp.nilF encU 1) (Imp.trans (Imp.nilF encBin 2) (Imp.trans (Imp.pure (p := ([] : List UInt8).length ≤ 9223372036854775807) (by decide)) (Imp.fs (by repeat' (first | exact trivial | exact .head _ | apply List.Mem.tail | apply And.intro)))))) rfl)
    | (show RdB _ _ _; refine RdB.mk' (by repeat (first | exact .head _ | apply List.Mem.tail)) (Nx.go ?_))
    | (refine AR.i64 (by omega) ?_; conv => whnf)
    | (refine AR.u64 (by omega) ?_; conv => whnf)
    | (refine AR.u8 (by omega) ?_; conv => whnf)
    | (refine Ob.mk (by omega) ?_; conv => whnf)
    | (refine BR.mk (fun h => ?_) (fun h => ?_) <;> (first | rw [Bool.not_eq_true'] at h | rw [Bool.not_eq_false'] at h | skip) <;> (try rw [h]) <;> (first | replace h := of_decide_eq_true h | replace h := of_decide_eq_false h | replace h := eq_of_beq h | replace h := bne_iff_ne.1 h | replace h := beq_eq_false_iff_ne.1 h | replace h := bne_eq_false_iff_eq.1 h | skip) <;> conv => whnf)

theorem c_new2  : Ct Tryz.prog 27 [] [.int .i64 2] [] (Rs (fun z : SkV => .tup [z.sv, .int .i64 0]) (fun _ => []) SkV.fs (fun z => z.sk = newS 2)) := by
  refine Ct.post (Ct.of Tryz.func27 rfl (n := 25) rfl rfl rfl ?_)
  conv => whnf
  repeat' first
    | (refine Ob.mk rfl ?_; conv => whnf)
    | (refine Nx.mk ?_; conv => whnf)
    | (refine BR.yes ?_; conv => whnf)
    | (refine BR.no ?_; conv => whnf)
    | (intro bk; conv => whnf)
    | (show CallK _ _ _ _ _ _ _; refine CallK.rf c_cnew (by repeat' (first | exact trivial | exact .head _ | apply List.Mem.tail | apply And.intro)) (fun y hy => Nx.go ?_))
    | (show Post _ _ _ _ _; exact Rs.post ⟨2, 0, nilU, 0, [], 2, 32, y, 0, nilB⟩ rfl (Imp.trans (Imp.nilF encU 1) (Imp.trans (Imp.nilF encBin 2) (Imp.trans (Imp.pure (p := ([] : List UInt8).length ≤ 9223372036854775807) (by decide)) (Imp.fs (by repeat' (first | exact trivial | exact .head _ | apply List.Mem.tail | apply And.intro)))))) (by rw [SkV.sk, hy]; rfl))
    | (show RdB _ _ _; refine RdB.mk' (by repeat (first | exact .head _ | apply List.Mem.tail)) (Nx.go ?_))
    | (refine AR.i64 (by omega) ?_; conv => whnf)
    | (refine AR.u64 (by omega) ?_; conv => whnf)
    | (refine AR.u8 (by omega) ?_; conv => whnf)
    | (refine Ob.mk (by omega) ?_; conv => whnf)
    | (refine BR.mk (fun h => ?_) (fun h => ?_) <;> (first | rw [Bool.not_eq_true'] at h | rw [Bool.not_eq_false'] at h | skip) <;> (try rw [h]) <;> (first | replace h := of_decide_eq_true h | replace h := of_decide_eq_false h | replace h := eq_of_beq h | replace h := bne_iff_ne.1 h | replace h := beq_eq_false_iff_ne.1 h | replace h := bne_eq_false_iff_eq.1 h | skip) <;> conv => whnf)

theorem c_new3  : Ct Tryz.prog 27 [] [.int .i64 3] [] (Rs (fun z : SkV => .tup [z.sv, .int .i64 0]) (fun _ => []) SkV.fs (fun z => z.sk = newS 3)) := by
  refine Ct.post (Ct.of Tryz.func27 rfl (n := 25) rfl rfl rfl ?_)
  conv => whnf
  repeat' first
    | (refine Ob.mk rfl ?_; conv => whnf)
    | (refine Nx.mk ?_; conv => whnf)
    | (refine BR.yes ?_; conv => whnf)
    | (refine BR.no ?_; conv => whnf)
    | (intro bk; conv => whnf)
    | (show Post _ _ _ _ _; exact Rs.post ⟨3, 0, nilU, 0, [], 0, 0, nilU, 3, nilB⟩ rfl (Imp.trans (Imp.nilF encU 1) (Imp.trans (Imp.nilF encBin 2) (Imp.trans (Imp.pure (p := ([] : List UInt8).length ≤ 9223372036854775807) (by decide)) (Imp.fs (by repeat' (first | exact trivial | exact .head _ | apply List.Mem.tail | apply And.intro)))))) rfl)
    | (show RdB _ _ _; refine RdB.mk' (by repeat (first | exact .head _ | apply List.Mem.tail)) (Nx.go ?_))
    | (refine AR.i64 (by omega) ?_; conv => whnf)
    | (refine AR.u64 (by omega) ?_; conv => whnf)
    | (refine AR.u8 (by omega) ?_; conv => whnf)
    | (refine Ob.mk (by omega) ?_; conv => whnf)
    | (refine BR.mk (fun h => ?_) (fun h => ?_) <;> (first | rw [Bool.not_eq_true'] at h | rw [Bool.not_eq_false'] at h | skip) <;> (try rw [h]) <;> (first | replace h := of_decide_eq_true h | replace h := of_decide_eq_false h | replace h := eq_of_beq h | replace h := bne_iff_ne.1 h | replace h := beq_eq_false_iff_ne.1 h | replace h := bne_eq_false_iff_eq.1 h | skip) <;> conv => whnf)

theorem c_new4  : Ct Tryz.prog 27 [] [.int .i64 4] [] (Rs (fun z : SkV => .tup [z.sv, .int .i64 101]) (fun _ => []) SkV.fs (fun _ => True)) := by
  refine Ct.post (Ct.of Tryz.func27 rfl (n := 25) rfl rfl rfl ?_)
  conv => whnf
  repeat' first
    | (refine Ob.mk rfl ?_; conv => whnf)
    | (refine Nx.mk ?_; conv => whnf)
    | (refine BR.yes ?_; conv => whnf)
    | (refine BR.no ?_; conv => whnf)
    | (intro bk; conv => whnf)
    | (show Post _ _ _ _ _; exact Rs.post ⟨0, 0, nilU, 0, [], 0, 0, nilU, 0, nilB⟩ rfl (Imp.trans (Imp.nilF encU 1) (Imp.trans (Imp.nilF encBin 2) (Imp.trans (Imp.pure (p := ([] : List UInt8).length ≤ 9223372036854775807) (by decide)) (Imp.fs (by repeat' (first | exact trivial | exact .head _ | apply List.Mem.tail | apply And.intro)))))) trivial)
    | (show RdB _ _ _; refine RdB.mk' (by repeat (first | exact .head _ | apply List.Mem.tail)) (Nx.go ?_))
    | (refine AR.i64 (by omega) ?_; conv => whnf)
    | (refine AR.u64 (by omega) ?_; conv => whnf)
    | (refine AR.u8 (by omega) ?_; conv => whnf)
    | (refine Ob.mk (by omega) ?_; conv => whnf)
    | (refine BR.mk (fun h => ?_) (fun h => ?_) <;> (first | rw [Bool.not_eq_true'] at h | rw [Bool.not_eq_false'] at h | skip) <;> (try rw [h]) <;> (first | replace h := of_decide_eq_true h | replace h := of_decide_eq_false h | replace h := eq_of_beq h | replace h := bne_iff_ne.1 h | replace h := beq_eq_false_iff_ne.1 h | replace h := bne_eq_false_iff_eq.1 h | skip) <;> conv => whnf)

theorem c_newK {k : Int} (hk : k = 1 ∨ k = 2 ∨ k = 3) : Ct Tryz.prog 27 [] [.int .i64 k] [] (Rs (fun z : SkV => .tup [z.sv, .int .i64 0]) (fun _ => []) SkV.fs (fun z => z.sk = newS k)) := by
  rcases hk with rfl | rfl | rfl
  · exact c_new1
  · exact c_new2
  · exact c_new3

theorem c_cstS (y : Sli UInt64) (hy : y.l.length ≤ 1000000) : Ct Tryz.prog 171 [] [.agg [y.sv]] [] (Rv (.int .i64 (8 * y.l.length))) := by
  refine Ct.of Tryz.func171 rfl (n := 8) rfl rfl rfl ?_
  conv => whnf
  repeat' first
    | (refine Ob.mk rfl ?_; conv => whnf)
    | (refine Nx.mk ?_; conv => whnf)
    | (intro bk; conv => whnf)
    | (show RdB _ _ _; refine RdB.mk' (by repeat (first | exact .head _ | apply List.Mem.tail)) (Nx.go ?_))
    | (refine AR.i64 (by omega) ?_; conv => whnf)
    | (refine AR.u64 (by omega) ?_; conv => whnf)
    | (refine AR.u8 (by omega) ?_; conv => whnf)
    | (refine Ob.mk (by omega) ?_; conv => whnf)
  rfl

theorem c_cstR (bi : Int) (rg : List UInt8) : Ct Tryz.prog 210 [] [.agg [.int .i64 bi, .str rg]] [] (Rv (.int .i64 (rg.length))) := by
  refine Ct.of Tryz.func210 rfl (n := 7) rfl rfl rfl ?_
  conv => whnf
  repeat' first
    | (refine Ob.mk rfl ?_; conv => whnf)
    | (refine Nx.mk ?_; conv => whnf)
    | (intro bk; conv => whnf)
    | (show RdB _ _ _; refine RdB.mk' (by repeat (first | exact .head _ | apply List.Mem.tail)) (Nx.go ?_))
    | (refine Ob.mk (by omega) ?_; conv => whnf)
  rfl

theorem c_cstC (r c : Int) (y : Sli UInt64) (hy : y.l.length ≤ 1000000) : Ct Tryz.prog 244 [] [.agg [.int .i64 r, .int .i64 c, y.sv]] [] (Rv (.int .i64 (8 * y.l.length))) := by
  refine Ct.of Tryz.func244 rfl (n := 8) rfl rfl rfl ?_
  conv => whnf
  repeat' first
    | (refine Ob.mk rfl ?_; conv => whnf)
    | (refine Nx.mk ?_; conv => whnf)
    | (intro bk; conv => whnf)
    | (show RdB _ _ _; refine RdB.mk' (by repeat (first | exact .head _ | apply List.Mem.tail)) (Nx.go ?_))
    | (refine AR.i64 (by omega) ?_; conv => whnf)
    | (refine AR.u64 (by omega) ?_; conv => whnf)
    | (refine AR.u8 (by omega) ?_; conv => whnf)
    | (refine Ob.mk (by omega) ?_; conv => whnf)
  rfl

theorem c_cstH (fi : Int) (y : Sli Bin) (hy : y.l.length ≤ 1000000) : Ct Tryz.prog 262 [] [.agg [.int .i64 fi, y.sv]] [] (Rv (.int .i64 (16 * y.l.length))) := by
  refine Ct.of Tryz.func262 rfl (n := 8) rfl rfl rfl ?_
  conv => whnf
  repeat' first
    | (refine Ob.mk rfl ?_; conv => whnf)
    | (refine Nx.mk ?_; conv => whnf)
    | (intro bk; conv => whnf)
    | (show RdB _ _ _; refine RdB.mk' (by repeat (first | exact .head _ | apply List.Mem.tail)) (Nx.go ?_))
    | (refine AR.i64 (by omega) ?_; conv => whnf)
    | (refine AR.u64 (by omega) ?_; conv => whnf)
    | (refine AR.u8 (by omega) ?_; conv => whnf)
    | (refine Ob.mk (by omega) ?_; conv => whnf)
  rfl

theorem c_cstI (h : Hv) (hr : rightS h.sk = true) : Ct Tryz.prog h.cstF [] [.agg h.ag] [h.f] (Rv (.int .i64 (costS h.sk - 16))) := by
  obtain ⟨l1, l2, l3, l4⟩ := right_lens hr
  cases h with
  | S x =>
    have e : costS (Hv.S x).sk - 16 = 8 * (x.l.length : Int) := by show 16 + ((8 * x.l.length + 0 + 8 * 0 + 16 * 0 : Nat) : Int) - 16 = _; omega
    rw [e]; exact (c_cstS x l1).more (by simp)
  | R b r =>
    have e : costS (Hv.R b r).sk - 16 = (r.length : Int) := by show 16 + ((8 * 0 + r.length + 8 * 0 + 16 * 0 : Nat) : Int) - 16 = _; omega
    rw [e]; exact (c_cstR b r).more (by simp)
  | C L x =>
    have e : costS (Hv.C L x).sk - 16 = 8 * (x.l.length : Int) := by show 16 + ((8 * 0 + 0 + 8 * x.l.length + 16 * 0 : Nat) : Int) - 16 = _; omega
    rw [e]; exact (c_cstC 2 _ x l2).more (by simp)
  | G L x =>
    have e : costS (Hv.G L x).sk - 16 = 16 * (x.l.length : Int) := by show 16 + ((8 * 0 + 0 + 8 * 0 + 16 * x.l.length : Nat) : Int) - 16 = _; omega
    rw [e]; exact (c_cstH _ x l3).more (by simp)
theorem cost_small {x : Sk} (h : rightS x = true) : 16 ≤ costS x ∧ costS x ≤ 9223372036854775807 / 2 := by
  obtain ⟨l1, l2, l3, l4⟩ := right_lens h
  obtain ⟨z, rfl⟩ := hv_of h
  have ho := Hv.ok_of h
  have hr : z.sk.regs.length ≤ 1000000 := by
    cases z with
    | S x => exact Nat.zero_le _
    | R b r =>
      have h1 := hllR_bits ho.1
      have h2 := (pow_b h1.1).2
      show r.length ≤ _; omega
    | C L x => exact Nat.zero_le _
    | G L x => exact Nat.zero_le _
  unfold costS; omega

theorem c_Cst (x : SkV) (hr : rightS x.sk = true) : Ct Tryz.prog 24 [] [x.sv] x.fs (Rv (.int .i64 (costS x.sk))) := by
  have hc := cost_small hr
  refine Ct.of Tryz.func24 rfl (n := 16) rfl rfl rfl ?_
  conv => whnf
  repeat' first
    | (show AR .i64 (16 + (costS wk.sk - 16)) _; rw [hh]; refine AR.i64 (by omega) ?_; conv => whnf)
    | (refine Ob.mk rfl ?_; conv => whnf)
    | (refine Nx.mk ?_; conv => whnf)
    | (refine BR.yes ?_; conv => whnf)
    | (refine BR.no ?_; conv => whnf)
    | (intro bk; conv => whnf)
    | (show CallK _ _ 42 _ _ _ _; refine CallK.rf (c_startJ x hr) (by repeat' (first | exact trivial | exact .head _ | apply List.Mem.tail | apply And.intro)) (fun wk hh => Nx.go ?_))
    | (show InvK _ _ _ _ _; refine inv_cost _ ?_; conv => whnf)
    | (show CallK _ _ (Hv.cstF _) _ _ _ _; refine CallK.rv (c_cstI wk (right_is hr hh)) (by repeat' (first | exact trivial | exact .head _ | apply List.Mem.tail | apply And.intro)) (Nx.go ?_) wk.isFn_cst)
    | (show RdB _ _ _; refine RdB.mk' (by repeat (first | exact .head _ | apply List.Mem.tail)) (Nx.go ?_))
    | (refine AR.i64 (by omega) ?_; conv => whnf)
    | (refine AR.u64 (by omega) ?_; conv => whnf)
    | (refine AR.u8 (by omega) ?_; conv => whnf)
    | (refine Ob.mk (by omega) ?_; conv => whnf)
    | (refine BR.mk (fun h => ?_) (fun h => ?_) <;> (first | rw [Bool.not_eq_true'] at h | rw [Bool.not_eq_false'] at h | skip) <;> (try rw [h]) <;> (first | replace h := of_decide_eq_true h | replace h := of_decide_eq_false h | replace h := eq_of_beq h | replace h := bne_iff_ne.1 h | replace h := beq_eq_false_iff_ne.1 h | replace h := bne_eq_false_iff_eq.1 h | skip) <;> conv => whnf)
  simp only [resS]; congr 1; omega

theorem c_CstN (x : SkV) {y : Sk} (e : x.sk = y) (hr : rightS y = true) {n : Int} (hn : costS y = n) : Ct Tryz.prog 24 [] [x.sv] x.fs (Rv (.int .i64 n)) := by
  subst e hn; exact c_Cst x hr

theorem c_shown  : Ct Tryz.prog 11 [] [] [] (Rv (.bool true)) := by
  refine Ct.of Tryz.func11 rfl (n := 54) rfl rfl rfl ?_
  conv => whnf
  repeat' first
    | (refine Ob.mk rfl ?_; conv => whnf)
    | (refine Nx.mk ?_; conv => whnf)
    | (refine BR.yes ?_; conv => whnf)
    | (refine BR.no ?_; conv => whnf)
    | (intro bk; conv => whnf)
    | (show CallK _ _ _ _ _ _ _; refine CallK.rf c_new1 (by repeat' (first | exact trivial | exact .head _ | apply List.Mem.tail | apply And.intro)) (fun a h1 => Nx.go ?_))
    | (show CallK _ _ _ _ _ _ _; refine CallK.rf c_new2 (by repeat' (first | exact trivial | exact .head _ | apply List.Mem.tail | apply And.intro)) (fun b h2 => Nx.go ?_))
    | (show CallK _ _ _ _ _ _ _; refine CallK.rf c_new3 (by repeat' (first | exact trivial | exact .head _ | apply List.Mem.tail | apply And.intro)) (fun c h3 => Nx.go ?_))
    | (show CallK _ _ _ _ _ _ _; refine CallK.rf c_new4 (by repeat' (first | exact trivial | exact .head _ | apply List.Mem.tail | apply And.intro)) (fun d h4 => Nx.go ?_))
    | (show CallK _ _ 24 _ _ _ _; refine CallK.rv (c_CstN a h1 (isOf_right (IsOf.new (.inl rfl))) (n := 16) rfl) (by repeat' (first | exact trivial | exact .head _ | apply List.Mem.tail | apply And.intro)) (Nx.go ?_))
    | (show CallK _ _ 24 _ _ _ _; refine CallK.rv (c_CstN b h2 (isOf_right (IsOf.new (.inr (.inl rfl)))) (n := 528) rfl) (by repeat' (first | exact trivial | exact .head _ | apply List.Mem.tail | apply And.intro)) (Nx.go ?_))
    | (show CallK _ _ 24 _ _ _ _; refine CallK.rv (c_CstN c h3 (isOf_right (IsOf.new (.inr (.inr rfl)))) (n := 16) rfl) (by repeat' (first | exact trivial | exact .head _ | apply List.Mem.tail | apply And.intro)) (Nx.go ?_))
    | (show RdB _ _ _; refine RdB.mk' (by repeat (first | exact .head _ | apply List.Mem.tail)) (Nx.go ?_))
    | (refine AR.i64 (by omega) ?_; conv => whnf)
    | (refine AR.u64 (by omega) ?_; conv => whnf)
    | (refine AR.u8 (by omega) ?_; conv => whnf)
    | (refine Ob.mk (by omega) ?_; conv => whnf)
    | (refine BR.mk (fun h => ?_) (fun h => ?_) <;> (first | rw [Bool.not_eq_true'] at h | rw [Bool.not_eq_false'] at h | skip) <;> (try rw [h]) <;> (first | replace h := of_decide_eq_true h | replace h := of_decide_eq_false h | replace h := eq_of_beq h | replace h := bne_iff_ne.1 h | replace h := beq_eq_false_iff_ne.1 h | replace h := bne_eq_false_iff_eq.1 h | skip) <;> conv => whnf)
  all_goals rfl
end Go.Proofs.YtikjigkkhdkibaaGreatDoor

/- ladder: M30 -/
namespace Go.Proofs.YtikjigkkhdkibaaGreatDoor
open Go.Proofs.YtikjigkkhdkibaaGreatDoor.W
set_option maxRecDepth 100000
set_option linter.unusedVariables false
theorem c_few (l : Sli Itm) : Ct Tryz.prog 23 [] [l.sv] [l.f encItm 2] (Rs (fun z : Sli Itm => z.sv) (fun _ => []) (fun z => [z.f encItm 2]) (fun z => z.l = l.l.take 100)) := by
  refine Ct.pure (List.Mem.head _) slF_len fun ha => ?_
  refine Ct.post (Ct.of Tryz.func23 rfl (n := 8) rfl rfl rfl ?_)
  conv => whnf
  repeat' first
    | (refine Ob.mk rfl ?_; conv => whnf)
    | (refine Nx.mk ?_; conv => whnf)
    | (refine Idx.is (min l.l.length 100) (by omega) ?_; conv => whnf)
    | (show Post _ _ _ _ _; refine Rs.post ys rfl (Imp.fs (by repeat' (first | exact trivial | exact .head _ | apply List.Mem.tail | apply And.intro))) ?_)
    | (refine Idx.nat ?_; conv => whnf)
    | (refine Idx.is _ rfl ?_; conv => whnf)
    | (show SlW _ _ _ _ _ _ _ _ _; refine SlW.s (by repeat (first | exact .head _ | apply List.Mem.tail)) (by omega) (fun ys hys hcs => Nx.go ?_))
    | (refine Ob.mk (by omega) ?_; conv => whnf)
  grind

theorem of_step {k : Int} {L : Nat} {S : List Itm} {x : Sk} (h : IsOf k L S x) {l : List Itm} {i : Nat} (hS : S = l.take i) {e : Itm} (he : l[i]? = some e) {y : Sk} (hy : y = addS x e) : IsOf k L (l.take (i + 1)) y := by
  rw [take_snoc he, ← hS, hy]; exact h.add e
theorem new_lv {k : Int} (hk : k = 1 ∨ k = 2 ∨ k = 3) : (newS k).level = 0 ∧ (newS k).kind = k := by
  rcases hk with rfl | rfl | rfl <;> exact ⟨rfl, rfl⟩
theorem of_new {k : Int} (hk : k = 1 ∨ k = 2 ∨ k = 3) {L : Nat} (hL : L ≤ (if k = 1 then 4 else 3)) : IsOf k L [] (toS L (newS k)) ∧ LowOk (newS k) L := by
  have h0 := (new_lv hk).1
  have h1 := IsOf.new hk
  have h2 := h1.to h0 L (by omega)
  rw [Nat.zero_add] at h2
  exact ⟨h2.1, (isOf_lowOk h1 h0 L (by omega)).1⟩
theorem sk_kind (x : SkV) : x.sk.kind = x.kind := rfl
theorem sk_level (x : SkV) : x.sk.level = x.level := rfl

theorem c_of (k : Int) (hk : k = 1 ∨ k = 2 ∨ k = 3) (L : Nat) (hL : L ≤ (if k = 1 then 4 else 3)) (l : Sli Itm) : Ct Tryz.prog 22 [] [.int .i64 k, .int .i64 L, l.sv] [l.f encItm 2] (Rs (fun z : SkV => .tup [z.sv, .int .i64 0]) (fun _ => []) SkV.fs (fun z => IsOf k L l.l z.sk)) := by
  refine Ct.len (enc := encItm) (L := l.l) (List.Mem.head _) fun hl => ?_
  obtain ⟨n1, n2⟩ := new_lv hk
  obtain ⟨n3, n4⟩ := of_new hk hL
  have n5 := bot_is hk
  refine Ct.post (Ct.of Tryz.func22 rfl (n := 47) rfl rfl rfl ?_)
  conv => whnf
  repeat' first
    | (refine Ob.mk rfl ?_; conv => whnf)
    | (refine Nx.mk ?_; conv => whnf)
    | (refine BR.yes ?_; conv => whnf)
    | (refine BR.no ?_; conv => whnf)
    | (intro bk; conv => whnf)
    | (show CallK _ _ 27 _ _ _ _; refine CallK.rf (c_newK hk) (by repeat' (first | exact trivial | exact .head _ | apply List.Mem.tail | apply And.intro)) (fun x hx => Nx.go ?_))
    | (show CallK _ _ 17 _ _ _ _; refine CallK.rf (c_To x (right_is (isOf_right (IsOf.new hk)) hx) L L (by rw [← sk_level, hx, n1]; omega) (by rw [← sk_kind, hx, n2, n5]; omega) (n4.is hx) (right_is (isOf_right n3) (by rw [hx]))) (by repeat' (first | exact trivial | exact .head _ | apply List.Mem.tail | apply And.intro)) (fun y hy => Nx.go ?_))
    | (show CallK _ _ 25 _ _ _ _; refine CallK.rf (c_Add z (isOf_right hi.2) xe (isOf_right (hi.2.add xe))) (by repeat' (first | exact trivial | exact .head _ | apply List.Mem.tail | apply And.intro)) (fun v hv => Nx.go ?_))
    | (show SemC _ _ _ (.loop (.seq (.seq (.region 6 _ _) _) _)) _ _ _ _ _; refine SemC.loopNV (c := (.seq (.seq (.region 6 _ _) _) _)) (fun j : Nat × SkV => [(10, .int .i64 j.1), (9, .int .i64 0)]) (fun lb j => setCells lb 1 j.2.cs) (fun Φ j => j.2.fs ++ Φ) (fun j => j.1 ≤ l.l.length ∧ IsOf k L (l.l.take j.1) j.2.sk) (fun j => l.l.length - j.1) (0, y) ?_; (conv => whnf); refine LoopQ.mk ?_ ⟨(by repeat (first | exact trivial | refine ⟨rfl, ?_⟩ | refine ⟨congrArg (Value.int _) (by omega), ?_⟩)), (Imp.to 2 rfl (by repeat' (first | exact trivial | exact .head _ | apply List.Mem.tail | apply And.intro)))⟩ (fun j hi => ?_); rotate_left; obtain ⟨i, z⟩ := j; dsimp only at hi ⊢; rotate_left)
    | (show Exists _; refine Exists.intro ((i + 1, v)) ⟨?_, ?_, rfl, ⟨(by repeat (first | exact trivial | refine ⟨rfl, ?_⟩ | refine ⟨congrArg (Value.int _) (by omega), ?_⟩)), Imp.to 2 rfl (by repeat' (first | exact trivial | exact .head _ | apply List.Mem.tail | apply And.intro))⟩⟩)
    | (show Post _ _ _ _ _; exact Rs.post z rfl (Imp.fs (by repeat' (first | exact trivial | exact .head _ | apply List.Mem.tail | apply And.intro))) (by have h9 := hi.2; rw [List.take_of_length_le (by omega)] at h9; exact h9))
    | (refine SemC.draw 8 [1] [.t 0, .t 1, .t 2, .t 3, .t 4, .l 5, .t 6, .t 7, .m 8, .w 9, .t 10] (by kernel_rfl) (by kernel_rfl) ?_; conv => whnf)
    | (refine Idx.nat ?_; conv => whnf)
    | (refine Idx.is _ rfl ?_; conv => whnf)
    | (show HasP _ _ _ _ _ _; refine HasP.mk' (by repeat (first | exact .head _ | apply List.Mem.tail)) (Nx.go ?_))
    | (show RdE _ _ _ _ _ _ _; refine RdE.s (by repeat (first | exact .head _ | apply List.Mem.tail)) (by omega) (fun xe hxe => Nx.go ?_))
    | (show RdB _ _ _; refine RdB.mk' (by repeat (first | exact .head _ | apply List.Mem.tail)) (Nx.go ?_))
    | (refine AR.i64 (by omega) ?_; conv => whnf)
    | (refine AR.u64 (by omega) ?_; conv => whnf)
    | (refine AR.u8 (by omega) ?_; conv => whnf)
    | (refine Ob.mk (by omega) ?_; conv => whnf)
    | (refine BR.mk (fun h => ?_) (fun h => ?_) <;> (first | rw [Bool.not_eq_true'] at h | rw [Bool.not_eq_false'] at h | skip) <;> (try rw [h]) <;> (first | replace h := of_decide_eq_true h | replace h := of_decide_eq_false h | replace h := eq_of_beq h | replace h := bne_iff_ne.1 h | replace h := beq_eq_false_iff_ne.1 h | replace h := bne_eq_false_iff_eq.1 h | skip) <;> conv => whnf)
  · exact ⟨Nat.zero_le _, by show IsOf k L (List.take 0 _) y.sk; rw [hy, hx]; exact n3⟩
  · exact ⟨by dsimp only; omega, of_step hi.2 rfl hxe hv⟩
  · dsimp only; omega
  all_goals trace_state
end Go.Proofs.YtikjigkkhdkibaaGreatDoor

/- ladder: M31 -/
namespace Go.Proofs.YtikjigkkhdkibaaGreatDoor
open Go.Proofs.YtikjigkkhdkibaaGreatDoor.W
set_option maxRecDepth 100000
set_option linter.unusedVariables false
theorem kind_of {k a : Int} (h0 : 0 ≤ a) (h1 : a ≤ botI k) : (k = 1 ∨ k = 2 ∨ k = 3) ∧ a.toNat ≤ (if k = 1 then 4 else 3) := by
  have hk : k = 1 ∨ k = 2 ∨ k = 3 := by
    unfold botI at h1
    split at h1
    · omega
    · split at h1
      · omega
      · split at h1 <;> omega
  rw [bot_is hk] at h1
  exact ⟨hk, by omega⟩
theorem c_ofI (k lv : Int) (h0 : 0 ≤ lv) (h1 : lv ≤ botI k) (l : Sli Itm) : Ct Tryz.prog 22 [] [.int .i64 k, .int .i64 lv, l.sv] [l.f encItm 2] (Rs (fun z : SkV => .tup [z.sv, .int .i64 0]) (fun _ => []) SkV.fs (fun z => IsOf k lv.toNat l.l z.sk)) := by
  obtain ⟨g1, g2⟩ := kind_of h0 h1
  have := c_of k g1 lv.toNat g2 l
  rwa [Int.toNat_of_nonneg h0] at this
theorem to_ok {k : Int} {L : Nat} {S : List Itm} {x : Sk} (h : IsOf k L S x) {ot : Int} (h0 : 0 ≤ ot) (h1 : ot ≤ botI k) : x.level + ((ot - x.level).toNat : Nat) = max x.level ot ∧ ot ≤ botI x.kind ∧ LowOk x (ot - x.level).toNat ∧ rightS (toS (ot - x.level).toNat x) = true ∧ IsOf k (max L ot.toNat) S (toS (ot - x.level).toNat x) := by
  obtain ⟨n, e1, e2, e3, e4, e5, e6⟩ := h.lev
  have hb := bot_is e5
  have h2 := isOf_lowOk e6 e1 (ot - x.level).toNat (by omega)
  have h3 := h.toL ot.toNat (by omega)
  rw [Int.toNat_of_nonneg h0] at h3
  exact ⟨by omega, by rw [e3]; exact h1, h2.1, h2.2, h3⟩
theorem mrg_ok {k : Int} {L M : Nat} {S T : List Itm} {x y : Sk} (h : IsOf k L S x) (g : IsOf k M T y) : y.kind = x.kind ∧ x.level + ((y.level - x.level).toNat : Nat) = max x.level y.level ∧ y.level + ((x.level - y.level).toNat : Nat) = max y.level x.level ∧
    LowOk x (y.level - x.level).toNat ∧ LowOk y (x.level - y.level).toNat ∧ rightS (toS (y.level - x.level).toNat x) = true ∧ rightS (toS (x.level - y.level).toNat y) = true ∧ rightS (mrg1 (toS (y.level - x.level).toNat x) (toS (x.level - y.level).toNat y)) = true ∧ IsOf k (max L M) (S ++ T) (mrg1 (toS (y.level - x.level).toNat x) (toS (x.level - y.level).toNat y)) := by
  obtain ⟨n, e1, e2, e3, e4, e5, e6⟩ := h.lev
  obtain ⟨m, f1, f2, f3, f4, f5, f6⟩ := g.lev
  have h2 := isOf_lowOk e6 e1 (y.level - x.level).toNat (by omega)
  have g2 := isOf_lowOk f6 f1 (x.level - y.level).toNat (by omega)
  have h3 : IsOf k (max L M) (S ++ T) (mrg1 (toS (y.level - x.level).toNat x) (toS (x.level - y.level).toNat y)) := h.merge g
  exact ⟨by rw [e3, f3], by omega, by omega, h2.1, g2.1, h2.2, g2.2, isOf_right h3, h3⟩
theorem c_sameT (x y : SkV) (h : x.sk = y.sk) : Ct Tryz.prog 20 [] [x.sv, y.sv] (x.fs ++ y.fs) (Rv (.bool true)) := by
  have := c_same x y
  rwa [decide_eq_true h] at this
theorem c_ToI {k : Int} {L : Nat} {S : List Itm} (x : SkV) (h : IsOf k L S x.sk) (ot : Int) (h0 : 0 ≤ ot) (h1 : ot ≤ botI k) : Ct Tryz.prog 17 [] [x.sv, .int .i64 ot] x.fs (Rs (fun z : SkV => .tup [z.sv, .int .i64 0]) (fun _ => []) SkV.fs (fun z => IsOf k (max L ot.toNat) S z.sk)) := by
  obtain ⟨g1, g2, g3, g4, g5⟩ := to_ok h h0 h1
  exact (c_To x (isOf_right h) ot _ g1 g2 g3 g4).map id (fun _ => rfl) (fun _ => rfl) (fun _ => rfl) fun z hz => by rw [id, hz]; exact g5
theorem c_MrgI {k : Int} {L M : Nat} {S T : List Itm} (x y : SkV) (h : IsOf k L S x.sk) (g : IsOf k M T y.sk) : Ct Tryz.prog 13 [] [x.sv, y.sv] (x.fs ++ y.fs) (Rs (fun z : SkV => .tup [z.sv, .int .i64 0]) (fun _ => []) SkV.fs (fun z => IsOf k (max L M) (S ++ T) z.sk)) := by
  obtain ⟨g1, g2, g3, g4, g5, g6, g7, g8, g9⟩ := mrg_ok h g
  exact (c_Mrg x y (isOf_right h) (isOf_right g) g1 _ _ g2 g3 g4 g5 g6 g7 g8).map id (fun _ => rfl) (fun _ => rfl) (fun _ => rfl) fun z hz => by rw [id, hz]; exact g9
theorem low_same {k a b : Int} {S T U : List Itm} {x y : Sk} (ha : 0 ≤ a) (hb : 0 ≤ b) (h : IsOf k (max a b).toNat S x) (g : IsOf k (max (min a b).toNat (max a b).toNat) T y) (h1 : S = U) (h2 : T = U) : x = y := by
  subst h1 h2
  rw [show max (min a b).toNat (max a b).toNat = (max a b).toNat by omega] at g
  exact h.uniq g (List.Perm.refl _)

theorem c_LLow (k a b : Int) (l : Sli Itm) : Ct Tryz.prog 4 [] [.int .i64 k, .int .i64 a, .int .i64 b, l.sv] [l.f encItm 2] (Rv (.bool true)) := by
  refine Ct.of Tryz.func4 rfl (n := 90) rfl rfl rfl ?_
  conv => whnf
  repeat' first
    | (refine Ob.mk rfl ?_; conv => whnf)
    | (refine Nx.mk ?_; conv => whnf)
    | (refine BR.yes ?_; conv => whnf)
    | (refine BR.no ?_; conv => whnf)
    | (intro bk; conv => whnf)
    | (show CallK _ _ _ _ _ _ _; refine CallK.rv c_shown (by repeat' (first | exact trivial | exact .head _ | apply List.Mem.tail | apply And.intro)) (Nx.go ?_))
    | (show CallK _ _ 21 _ _ _ _; refine CallK.rv (c_bot k) (by repeat' (first | exact trivial | exact .head _ | apply List.Mem.tail | apply And.intro)) (Nx.go ?_))
    | (show CallK _ _ 23 _ _ _ _; refine CallK.rf (c_few l) (by repeat' (first | exact trivial | exact .head _ | apply List.Mem.tail | apply And.intro)) (fun s hs => Nx.go ?_))
    | (show CallK _ _ 22 _ _ _ _; refine CallK.rf (c_ofI k (min a b) (by omega) (by omega) s) (by repeat' (first | exact trivial | exact .head _ | apply List.Mem.tail | apply And.intro)) (fun x hx => Nx.go ?_))
    | (show CallK _ _ 22 _ _ _ _; refine CallK.rf (c_ofI k (max a b) (by omega) (by omega) s) (by repeat' (first | exact trivial | exact .head _ | apply List.Mem.tail | apply And.intro)) (fun y hy => Nx.go ?_))
    | (show CallK _ _ 17 _ _ _ _; refine CallK.rf (c_ToI x hx (max a b) (by omega) (by omega)) (by repeat' (first | exact trivial | exact .head _ | apply List.Mem.tail | apply And.intro)) (fun z hz => Nx.go ?_))
    | (show CallK _ _ 20 _ _ _ _; refine CallK.rv (c_sameT y z (low_same (by omega) (by omega) hy hz hs (by assumption))) (by repeat' (first | exact trivial | exact .head _ | apply List.Mem.tail | apply And.intro)) (Nx.go ?_))
    | (show RdB _ _ _; refine RdB.mk' (by repeat (first | exact .head _ | apply List.Mem.tail)) (Nx.go ?_))
    | (refine AR.i64 (by omega) ?_; conv => whnf)
    | (refine AR.u64 (by omega) ?_; conv => whnf)
    | (refine AR.u8 (by omega) ?_; conv => whnf)
    | (refine Ob.mk (by omega) ?_; conv => whnf)
    | (refine BR.mk (fun h => ?_) (fun h => ?_) <;> (first | rw [Bool.not_eq_true'] at h | rw [Bool.not_eq_false'] at h | skip) <;> (try rw [h]) <;> (first | replace h := of_decide_eq_true h | replace h := of_decide_eq_false h | replace h := eq_of_beq h | replace h := bne_iff_ne.1 h | replace h := beq_eq_false_iff_ne.1 h | replace h := bne_eq_false_iff_eq.1 h | skip) <;> conv => whnf)
  all_goals rfl
end Go.Proofs.YtikjigkkhdkibaaGreatDoor

/- ladder: M40 -/
namespace Go.Proofs.YtikjigkkhdkibaaGreatDoor
open Go.Proofs.YtikjigkkhdkibaaGreatDoor.W
set_option maxRecDepth 100000
set_option linter.unusedVariables false
open Go.ChangeShapes Go.WideShapes Go.RowKit
theorem Tryz.own : ownKnob Tryz.prog.godebug = none := by kernel_rfl
theorem Tryz.kids : Kids Tryz.prog (· < Tryz.prog.types.size) := kids_rows (by kernel_rfl) (by kernel_rfl)
theorem Tryz.full : ∀ t e, t < Tryz.prog.types.size → Tryz.prog.underlying t = some (.slice e) → 0 < Tryz.prog.cellsOf e := slices_full_of Tryz.prog (by kernel_rfl)

theorem list10 {α : Type} {l : List α} (h : l.length = 10) : ∃ c0 c1 c2 c3 c4 c5 c6 c7 c8 c9, l = [c0, c1, c2, c3, c4, c5, c6, c7, c8, c9] := by
  match l, h with
  | [c0, c1, c2, c3, c4, c5, c6, c7, c8, c9], _ => exact ⟨c0, c1, c2, c3, c4, c5, c6, c7, c8, c9, rfl⟩
theorem xs_at {α : Type} {xs : List α} {n i : Nat} (h : xs.length = n) (hi : i < n) : ∃ y, xs[i]? = some y := ⟨_, List.getElem?_eq_getElem (by omega)⟩
set_option maxHeartbeats 4000000 in
/-- a sketch that came in -/
theorem open_sk {H : Type} {enc : TypeId × Value → H} {w : World} {sp : Nat → Bool} {hd : Bool} {fuel : Nat} {cs : List Value} {y : DataW H × List MemPlace} (h : DataW.trod enc Tryz.prog w 0 sp hd fuel 33 cs = some y) :
    ∃ x : SkV, cs = dens x.cs ∧ Hold x.fs (Old w) w := by
  have c1 : Tryz.prog.cellsOf 3 = 1 := by kernel_rfl
  have cS : Tryz.prog.cellsOf 9 = 1 := by kernel_rfl
  have cU : Tryz.prog.cellsOf 22 = 1 := by kernel_rfl
  have cB : Tryz.prog.cellsOf 29 = 1 := by kernel_rfl
  have cE : Tryz.prog.cellsOf 24 = 1 := by kernel_rfl
  have cH : Tryz.prog.cellsOf 26 = 2 := by kernel_rfl
  have cC : Tryz.prog.cellsOf 28 = 3 := by kernel_rfl
  have cG : Tryz.prog.cellsOf 31 = 2 := by kernel_rfl
  have c64 : Tryz.prog.cellsOf 50 = 1 := by kernel_rfl
  obtain ⟨xs, n, _, _, hl, hlen, hf⟩ := DataW.trod_struct Tryz.underlying33 h
  obtain ⟨a0, a1, a2, a3, a4, a5, a6, a7, a8, a9, rfl⟩ := list10 (hl.trans (by kernel_rfl))
  obtain ⟨y0, e0⟩ := xs_at (i := 0) hlen (by decide)
  obtain ⟨y1, e1⟩ := xs_at (i := 1) hlen (by decide)
  obtain ⟨y2, e2⟩ := xs_at (i := 2) hlen (by decide)
  obtain ⟨y3, e3⟩ := xs_at (i := 3) hlen (by decide)
  obtain ⟨y4, e4⟩ := xs_at (i := 4) hlen (by decide)
  obtain ⟨y5, e5⟩ := xs_at (i := 5) hlen (by decide)
  have f0 : DataW.trod enc Tryz.prog w 0 sp hd n 3 ((([a0, a1, a2, a3, a4, a5, a6, a7, a8, a9] : List Value).drop 0).take (Tryz.prog.cellsOf 3)) = some y0 := (hf 0 _ rfl).trans e0
  have f1 : DataW.trod enc Tryz.prog w 0 sp hd n 3 ((([a0, a1, a2, a3, a4, a5, a6, a7, a8, a9] : List Value).drop 1).take (Tryz.prog.cellsOf 3)) = some y1 := (hf 1 _ rfl).trans e1
  have f2 : DataW.trod enc Tryz.prog w 0 sp hd n 24 ((([a0, a1, a2, a3, a4, a5, a6, a7, a8, a9] : List Value).drop 2).take (Tryz.prog.cellsOf 24)) = some y2 := (hf 2 _ rfl).trans e2
  have f3 : DataW.trod enc Tryz.prog w 0 sp hd n 26 ((([a0, a1, a2, a3, a4, a5, a6, a7, a8, a9] : List Value).drop 3).take (Tryz.prog.cellsOf 26)) = some y3 := (hf 3 _ rfl).trans e3
  have f4 : DataW.trod enc Tryz.prog w 0 sp hd n 28 ((([a0, a1, a2, a3, a4, a5, a6, a7, a8, a9] : List Value).drop 5).take (Tryz.prog.cellsOf 28)) = some y4 := (hf 4 _ rfl).trans e4
  have f5 : DataW.trod enc Tryz.prog w 0 sp hd n 31 ((([a0, a1, a2, a3, a4, a5, a6, a7, a8, a9] : List Value).drop 8).take (Tryz.prog.cellsOf 31)) = some y5 := (hf 5 _ rfl).trans e5
  clear hf e0 e1 e2 e3 e4 e5
  simp only [c1, cE, cH, cC, cG, List.drop_zero, List.drop_succ_cons, List.take_succ_cons, List.take_zero] at f0 f1 f2 f3 f4 f5
  obtain ⟨k, g0⟩ := open_i Tryz.underlying3 f0
  obtain ⟨l, g1⟩ := open_i Tryz.underlying3 f1
  obtain ⟨z2, n2, _, _, t2⟩ := trod_struct1 Tryz.underlying24 f2
  obtain ⟨z30, z31, n3, _, _, t30, t31⟩ := trod_struct2 Tryz.underlying26 f3
  obtain ⟨zs, n4, _, _, _, hlen4, hf4⟩ := DataW.trod_struct Tryz.underlying28 f4
  obtain ⟨z50, z51, n5, _, _, t50, t51⟩ := trod_struct2 Tryz.underlying31 f5
  obtain ⟨z40, e40⟩ := xs_at (i := 0) hlen4 (by decide)
  obtain ⟨z41, e41⟩ := xs_at (i := 1) hlen4 (by decide)
  obtain ⟨z42, e42⟩ := xs_at (i := 2) hlen4 (by decide)
  have t40 : DataW.trod enc Tryz.prog w 0 sp hd n4 3 ((([a5, a6, a7] : List Value).drop 0).take (Tryz.prog.cellsOf 3)) = some z40 := (hf4 0 _ rfl).trans e40
  have t41 : DataW.trod enc Tryz.prog w 0 sp hd n4 3 ((([a5, a6, a7] : List Value).drop 1).take (Tryz.prog.cellsOf 3)) = some z41 := (hf4 1 _ rfl).trans e41
  have t42 : DataW.trod enc Tryz.prog w 0 sp hd n4 22 ((([a5, a6, a7] : List Value).drop 2).take (Tryz.prog.cellsOf 22)) = some z42 := (hf4 2 _ rfl).trans e42
  clear hf4 e40 e41 e42
  simp only [c1, cS, cU, cB, List.drop_zero, List.drop_succ_cons, List.take_succ_cons, List.take_zero] at t2 t30 t31 t40 t41 t42 t50 t51
  obtain ⟨e, g2, s2⟩ := open_u64s Tryz.underlying22 Tryz.underlying50 c64 t2
  obtain ⟨bi, g3⟩ := open_i Tryz.underlying3 t30
  obtain ⟨rg, g4, s4⟩ := open_str Tryz.underlying9 t31
  obtain ⟨ro, g5⟩ := open_i Tryz.underlying3 t40
  obtain ⟨co, g6⟩ := open_i Tryz.underlying3 t41
  obtain ⟨c, g7, s7⟩ := open_u64s Tryz.underlying22 Tryz.underlying50 c64 t42
  obtain ⟨fi, g8⟩ := open_i Tryz.underlying3 t50
  obtain ⟨g, g9, s9⟩ := open_bins Tryz.underlying29 Tryz.underlying142 (by kernel_rfl) rfl rfl c1 c64 Tryz.underlying3 Tryz.underlying50 t51
  simp only [List.cons.injEq, and_true] at g0 g1 g2 g3 g4 g5 g6 g7 g8 g9
  subst g0 g1 g2 g3 g4 g5 g6 g7 g8 g9
  exact ⟨⟨k, l, e, bi, rg, ro, co, c, fi, g⟩, rfl, Hold.cons s2 (Hold.cons s7 (Hold.cons s9 (Hold.cons s4 Hold.nil)))⟩
/-- an empty sketch -/
abbrev sk0V : Value := .agg #[.int .i64 0, .int .i64 0, .slice none 0 0, .int .i64 0, .string ⟨#[]⟩, .int .i64 0, .int .i64 0, .slice none 0 0, .int .i64 0, .slice none 0 0]

theorem open_item {H : Type} {enc : TypeId × Value → H} {w : World} {sp : Nat → Bool} {hd : Bool} {fuel : Nat} {cs : List Value} {y : DataW H × List MemPlace} (h : DataW.trod enc Tryz.prog w 0 sp hd fuel 52 cs = some y) :
    ∃ x : Itm, cs = dens (encItm x) ∧ okE encItm 2 x ∧ True := by
  have cU : Tryz.prog.cellsOf 50 = 1 := by kernel_rfl
  obtain ⟨xs, n, _, _, hl, hlen, hf⟩ := DataW.trod_struct Tryz.underlying52 h
  obtain ⟨a0, a1, rfl⟩ : ∃ a0 a1, cs = [a0, a1] := by
    match cs, hl.trans (by kernel_rfl : Tryz.prog.cellsOf 52 = 2) with
    | [a0, a1], _ => exact ⟨a0, a1, rfl⟩
  obtain ⟨y0, e0⟩ := xs_at (i := 0) hlen (by decide)
  obtain ⟨y1, e1⟩ := xs_at (i := 1) hlen (by decide)
  have f0 : DataW.trod enc Tryz.prog w 0 sp hd n 50 ((([a0, a1] : List Value).drop 0).take (Tryz.prog.cellsOf 50)) = some y0 := (hf 0 _ rfl).trans e0
  have f1 : DataW.trod enc Tryz.prog w 0 sp hd n 50 ((([a0, a1] : List Value).drop 1).take (Tryz.prog.cellsOf 50)) = some y1 := (hf 1 _ rfl).trans e1
  simp only [cU, List.drop_zero, List.drop_succ_cons, List.take_succ_cons, List.take_zero] at f0 f1
  obtain ⟨n0, g0, _, w0⟩ := DataW.trod_int Tryz.underlying50 f0
  obtain ⟨n1, g1, _, w1⟩ := DataW.trod_int Tryz.underlying50 f1
  simp only [List.cons.injEq, and_true] at g0 g1
  subst g0 g1
  refine ⟨⟨U n0, U n1⟩, ?_, ⟨rfl, rfl⟩, trivial⟩
  show _ = [Value.int .u64 ((U n0).toNat : Int), Value.int .u64 ((U n1).toNat : Int)]
  rw [U_is (wf_u64 w0), U_is (wf_u64 w1)]
/-- items that came in -/
theorem open_items {H : Type} {enc : TypeId × Value → H} {w : World} {sp : Nat → Bool} {hd : Bool} {fuel : Nat} {cs : List Value} {y : DataW H × List MemPlace} (h : DataW.trod enc Tryz.prog w 0 sp hd fuel 43 cs = some y) :
    ∃ x : Sli Itm, cs = [x.sv.den] ∧ Hold [x.f encItm 2] (Old w) w := by
  obtain ⟨x, h1, h2, h3⟩ := open_els encItm 2 (fun _ => True) (by decide) Tryz.underlying43 (by kernel_rfl) (fun _ _ _ h => open_item h) h
  exact ⟨x, h1, Hold.cons h2 Hold.nil⟩
/-- a world in which the type's handle lies so -/
noncomputable def laidWorld (os : Os) : World :=
  let w0 := World.holding Tryz.prog os ⟨#[], #[], []⟩
  { w0 with heap := w0.heap.modify 2 fun
      | .cells _ t frozen => .cells #[.iface 225 (.agg #[typeHandle Tryz.prog 74])] t frozen
      | o => o }
abbrev laidL : List (String × DataW Unit) := [("errors.errorType", Rows.laid_errors_errorType)]
theorem laidWorld_met (os : Os) (args : Array Value) : laidMetH Tryz.prog laidL ((laidWorld os).forCall (fun _ _ => 0) ⟨#[], args, []⟩).memory :=
  laidMetH_of_parts (laidMet_nil _ _) (by kernel_rfl)
end Go.Proofs.YtikjigkkhdkibaaGreatDoor

/- ladder: M32 -/
namespace Go.Proofs.YtikjigkkhdkibaaGreatDoor
open Go.Proofs.YtikjigkkhdkibaaGreatDoor.W
set_option maxRecDepth 100000
set_option linter.unusedVariables false
structure TJ where
  i : Nat
  b : Nat
  p : Option Addr
  n : Nat
  c : Nat
  l : List Itm
def TJI (s : List Itm) (j : TJ) : Prop := j.i ≤ s.length ∧ j.n = j.l.length ∧ j.l = (s.drop j.i).reverse
theorem TJI.step {s : List Itm} {i b n c : Nat} {p : Option Addr} {l : List Itm} (h : TJI s ⟨i, b, p, n, c, l⟩) (hi : 0 < i) {x : Itm} (hx : s[i - 1]? = some x) {ys : List Itm} (hy : ys = [x]) (b' : Nat) (p' : Option Addr) (c' : Nat) : TJI s ⟨i - 1, b', p', n + ys.length, c', l ++ ys⟩ := by
  obtain ⟨h1, h2, h3⟩ := h
  dsimp only at h1 h2 h3
  refine ⟨by dsimp only; omega, by dsimp only; rw [List.length_append, h2], ?_⟩
  dsimp only
  have hlt : i - 1 < s.length := by omega
  have e : s.drop (i - 1) = x :: s.drop i := by
    rw [List.drop_eq_getElem_cons hlt, show i - 1 + 1 = i by omega]
    rw [List.getElem?_eq_getElem hlt] at hx
    rw [Option.some.inj hx]
  rw [h3, e, hy, List.reverse_cons]
theorem TJI.len {s : List Itm} (hs : s.length ≤ 100) {i b n c : Nat} {p : Option Addr} {l : List Itm} (h : TJI s ⟨i, b, p, n, c, l⟩) : n ≤ 100 := by
  obtain ⟨h1, h2, h3⟩ := h
  dsimp only at h1 h2 h3
  rw [h2, h3, List.length_reverse, List.length_drop]; omega
theorem same_all {k : Int} {L M : Nat} {S T : List Itm} {x y : Sk} (h : IsOf k L S x) (g : IsOf k M T y) (hL : L = M) (hp : S.Perm T) : x = y := by subst hL; exact h.uniq g hp
theorem cut_perm {s a b : List Itm} {m : Nat} (h1 : a = s.take m) (h2 : b = s.drop m) : (a ++ b).Perm s := by subst h1 h2; rw [List.take_append_drop]
theorem rev_perm {s : List Itm} {i b n c : Nat} {p : Option Addr} {l : List Itm} (h : TJI s ⟨i, b, p, n, c, l⟩) (hi : ¬ (i : Int) - 1 ≥ 0) : l.Perm s := by
  obtain rfl : i = 0 := by omega
  have h3 : l = (s.drop 0).reverse := h.2.2
  rw [h3]
  exact List.reverse_perm s
theorem few_len {s l : List Itm} (h : s = l.take 100) : s.length ≤ 100 := by rw [h, List.length_take]; omega

theorem c_LPar (k a b : Int) (l : Sli Itm) (at_ : Int) : Ct Tryz.prog 6 [] [.int .i64 k, .int .i64 a, .int .i64 b, l.sv, .int .i64 at_] [l.f encItm 2] (Rv (.bool true)) := by
  refine Ct.of Tryz.func6 rfl (n := 155) rfl rfl rfl ?_
  conv => whnf
  repeat' first
    | (show SemO _ _ (.buildSlice _ _ #[(0, .tmp 64)]) _ _ _ _ _; refine SemO.lit ?_; (conv => whnf); show BsV _ _ _ _ _; refine BsV.s [xe] (by repeat (first | exact .nil | refine .cons (by first | rfl | exact encB_of (by omega) | exact encU_U (by omega)) ?_)) (fun xo _ => okItm xo) (fun ys hys => Nx.go ?_))
    | (show SemO _ _ (.call ⟨.builtin .append, _, _⟩) _ _ _ _ _; refine SemO.appendVec ?_; (conv => whnf); refine Ob.mk ⟨rfl, rfl, rfl, rfl, rfl⟩ ?_)
    | (show AppV _ _ _ _ _ _ _ _ _ _ _ _ _ _; refine ⟨rfl, _, .fact (by repeat (first | exact .head _ | apply List.Mem.tail)), app_le (N := 1048576) ?_ (of_decide_eq_true (by kernel_rfl)), ?_, fun bv pv cv hcv => Nx.go ?_⟩)
    | (show Exists _; refine Exists.intro ⟨i - 1, bv, pv, jn + ys.l.length, cv, jl ++ ys.l⟩ ⟨?_, ?_, rfl, ⟨(by repeat (first | exact trivial | refine ⟨rfl, ?_⟩ | refine ⟨congrArg (Value.int _) (by dsimp only; omega), ?_⟩)), Imp.to 1 rfl (by repeat' (first | exact trivial | exact .head _ | apply List.Mem.tail | apply And.intro))⟩⟩)
    | (have hj1 : i ≤ s.l.length := hi.1; show Ob (i - 1 < s.l.length) _; refine Ob.mk (by omega) ?_; conv => whnf)
    | (have hfl := few_len hs; show AR .i64 ((s.l.length : Int) - 1) _; refine AR.i64 (by omega) ?_; conv => whnf)
    | (show SlW _ _ _ _ _ 0 _ _ _; refine SlW.s (by repeat (first | exact .head _ | apply List.Mem.tail)) (by omega) (fun s1 h1 hc1 => Nx.go ?_))
    | (show SlW _ _ _ _ _ _ _ _ _; refine SlW.s (by repeat (first | exact .head _ | apply List.Mem.tail)) (by omega) (fun s2 h2 hc2 => Nx.go ?_))
    | (refine Idx.is (i - 1) (by omega) ?_; conv => whnf)
    | (refine Idx.is (max 0 (min at_ s.l.length)).toNat (by omega) ?_; conv => whnf)
    | (refine Ob.mk rfl ?_; conv => whnf)
    | (refine Nx.mk ?_; conv => whnf)
    | (refine BR.yes ?_; conv => whnf)
    | (refine BR.no ?_; conv => whnf)
    | (intro bk; conv => whnf)
    | (show CallK _ _ _ _ _ _ _; refine CallK.rv c_shown (by repeat' (first | exact trivial | exact .head _ | apply List.Mem.tail | apply And.intro)) (Nx.go ?_))
    | (show CallK _ _ 21 _ _ _ _; refine CallK.rv (c_bot k) (by repeat' (first | exact trivial | exact .head _ | apply List.Mem.tail | apply And.intro)) (Nx.go ?_))
    | (show CallK _ _ 23 _ _ _ _; refine CallK.rf (c_few l) (by repeat' (first | exact trivial | exact .head _ | apply List.Mem.tail | apply And.intro)) (fun s hs => Nx.go ?_))
    | (show CallK _ _ 22 _ _ _ _; refine CallK.rf (c_ofI k (max a b) (by omega) (by omega) s) (by repeat' (first | exact trivial | exact .head _ | apply List.Mem.tail | apply And.intro)) (fun v1 g1 => Nx.go ?_))
    | (show CallK _ _ 22 _ _ _ _; refine CallK.rf (c_ofI k a (by omega) (by omega) s1) (by repeat' (first | exact trivial | exact .head _ | apply List.Mem.tail | apply And.intro)) (fun v2 g2 => Nx.go ?_))
    | (show CallK _ _ 22 _ _ _ _; refine CallK.rf (c_ofI k b (by omega) (by omega) s2) (by repeat' (first | exact trivial | exact .head _ | apply List.Mem.tail | apply And.intro)) (fun v3 g3 => Nx.go ?_))
    | (show CallK _ _ _ _ _ _ _; refine CallK.rfP (Imp.pubS 0 rfl hi.2.1.symm) (c_ofI k (max a b) (by omega) (by omega) ⟨jl, jp, jc⟩) (by rw [show jn = jl.length from hi.2.1]; rfl) (by repeat' (first | exact trivial | exact .head _ | apply List.Mem.tail | apply And.intro)) (fun v4 g4 => Nx.go ?_))
    | (show CallK _ _ 13 _ _ _ _; refine CallK.rf (c_MrgI v2 v3 g2 g3) (by repeat' (first | exact trivial | exact .head _ | apply List.Mem.tail | apply And.intro)) (fun v5 g5 => Nx.go ?_))
    | (show CallK _ _ 13 _ _ _ _; refine CallK.rf (c_MrgI v3 v2 g3 g2) (by repeat' (first | exact trivial | exact .head _ | apply List.Mem.tail | apply And.intro)) (fun v6 g6 => Nx.go ?_))
    | (show CallK _ _ 20 _ _ _ _; refine CallK.rv (c_sameT v6 v1 (same_all g6 g1 (by omega) (List.perm_append_comm.trans hp))) (by repeat' (first | exact trivial | exact .head _ | apply List.Mem.tail | apply And.intro)) (Nx.go ?_))
    | (show CallK _ _ 20 _ _ _ _; refine CallK.rv (c_sameT v4 v1 (same_all g4 g1 rfl hr)) (by repeat' (first | exact trivial | exact .head _ | apply List.Mem.tail | apply And.intro)) (Nx.go ?_))
    | (show SemC _ _ _ (.loop (.seq (.seq (.region 8 _ _) _) _)) _ _ _ _ _; refine SemC.loopB (c := (.seq (.seq (.region 8 _ _) _) _)) (fun j : TJ => [(13, .int .i64 (j.i - 1)), (12, .vec 0 j.p j.n j.c)]) (fun j => [(j.b, .vec encItm 2 52 j.p j.n j.c j.l)]) (fun j => TJI s.l j) (fun j => j.i) ⟨s.l.length, 0, none, 0, 0, []⟩ ?_; (conv => whnf); refine LoopQ.mk ?_ ⟨(by repeat (first | exact trivial | refine ⟨rfl, ?_⟩ | refine ⟨congrArg (Value.int _) (by omega), ?_⟩)), (Imp.nilVec encItm 2 52)⟩ (fun j hi => ?_); rotate_left; obtain ⟨i, jb, jp, jn, jc, jl⟩ := j; dsimp only at hi ⊢; rotate_left)
    | (have hp : (s1.l ++ s2.l).Perm s.l := cut_perm (m := (max 0 (min at_ s.l.length)).toNat) h1 (h2.trans (by rw [List.take_length])); have hr := rev_perm hi h; show CallK _ _ 20 _ _ _ _; refine CallK.rv (c_sameT v5 v1 (same_all g5 g1 (by omega) hp)) (by repeat' (first | exact trivial | exact .head _ | apply List.Mem.tail | apply And.intro)) (Nx.go ?_))
    | (refine Idx.nat ?_; conv => whnf)
    | (refine Idx.is _ rfl ?_; conv => whnf)
    | (show HasP _ _ _ _ _ _; refine HasP.mk' (by repeat (first | exact .head _ | apply List.Mem.tail)) (Nx.go ?_))
    | (show RdE _ _ _ _ _ _ _; refine RdE.s (by repeat (first | exact .head _ | apply List.Mem.tail)) (by omega) (fun xe hxe => Nx.go ?_))
    | (show RdB _ _ _; refine RdB.mk' (by repeat (first | exact .head _ | apply List.Mem.tail)) (Nx.go ?_))
    | (show SlW _ _ _ _ _ _ _ _ _; refine SlW.s (by repeat (first | exact .head _ | apply List.Mem.tail)) (by omega) (fun ys hys hcs => Nx.go ?_))
    | (refine AR.i64 (by omega) ?_; conv => whnf)
    | (refine AR.u64 (by omega) ?_; conv => whnf)
    | (refine AR.u8 (by omega) ?_; conv => whnf)
    | (refine Ob.mk (by omega) ?_; conv => whnf)
    | (refine BR.mk (fun h => ?_) (fun h => ?_) <;> (first | rw [Bool.not_eq_true'] at h | rw [Bool.not_eq_false'] at h | skip) <;> (try rw [h]) <;> (first | replace h := of_decide_eq_true h | replace h := of_decide_eq_false h | replace h := eq_of_beq h | replace h := bne_iff_ne.1 h | replace h := beq_eq_false_iff_ne.1 h | replace h := bne_eq_false_iff_eq.1 h | skip) <;> conv => whnf)
  all_goals try rfl
  · exact ⟨Nat.le_refl _, rfl, by simp⟩
  · have h9 := hi.len hfl; rw [hys]; show jn + 1 ≤ _; omega
  · have h9 := hi.len hfl; rw [hys]; show jn + 1 ≤ _; omega
  · exact hi.step (by omega) hxe hys _ _ _
  · dsimp only; omega
  all_goals trace_state
end Go.Proofs.YtikjigkkhdkibaaGreatDoor

/- ladder: M33 -/
namespace Go.Proofs.YtikjigkkhdkibaaGreatDoor
open Go.Proofs.YtikjigkkhdkibaaGreatDoor.W
set_option maxRecDepth 100000
set_option linter.unusedVariables false
theorem td3 (n : Nat) : Int.tdiv (n : Int) 3 = ((n / 3 : Nat) : Int) := rfl
theorem few90 {s l : List Itm} {n : Nat} (h : s = List.drop 0 (List.take n l)) (hn : n ≤ 90) : s.length ≤ 90 := by
  rw [h]
  show (List.take n l).length ≤ 90
  rw [List.length_take]; omega
theorem lev_ge {k : Int} {L : Nat} {S : List Itm} {x : Sk} (h : IsOf k L S x) : (L : Int) ≤ x.level := by
  obtain ⟨n, e1, e2, _⟩ := h.lev
  omega

theorem c_LRul (k a b c : Int) (l : Sli Itm) : Ct Tryz.prog 7 [] [.int .i64 k, .int .i64 a, .int .i64 b, .int .i64 c, l.sv] [l.f encItm 2] (Rv (.bool true)) := by
  refine Ct.pure (List.Mem.head _) slF_len fun ha => ?_
  refine Ct.of Tryz.func7 rfl (n := 162) rfl rfl rfl ?_
  conv => whnf
  repeat' first
    | (show SlW _ l.p _ _ _ _ _ _ _; refine SlW.s (by repeat (first | exact .head _ | apply List.Mem.tail)) (by omega) (fun s hs hcs => Nx.go ?_))
    | (show SlW _ s.p _ _ _ 0 _ _ _; refine SlW.s (by repeat (first | exact .head _ | apply List.Mem.tail)) (by omega) (fun s1 h1 hc1 => Nx.go ?_))
    | (show SlW _ s.p _ _ _ (s.l.length / 3) _ _ _; refine SlW.s (by repeat (first | exact .head _ | apply List.Mem.tail)) (by omega) (fun s2 h2 hc2 => Nx.go ?_))
    | (show SlW _ s.p _ _ _ _ _ _ _; refine SlW.s (by repeat (first | exact .head _ | apply List.Mem.tail)) (by omega) (fun s3 h3 hc3 => Nx.go ?_))
    | (have h90 := few90 hs (by omega); show AR .i64 (Int.tdiv _ 3) _; rw [td3]; refine AR.i64 (by omega) ?_; conv => whnf)
    | (refine Idx.is (min l.l.length 90) (by omega) ?_; conv => whnf)
    | (refine Idx.is (s.l.length / 3) rfl ?_; conv => whnf)
    | (refine Idx.is (2 * (s.l.length / 3)) (by omega) ?_; conv => whnf)
    | (refine Ob.mk rfl ?_; conv => whnf)
    | (refine Nx.mk ?_; conv => whnf)
    | (refine BR.yes ?_; conv => whnf)
    | (refine BR.no ?_; conv => whnf)
    | (intro bk; conv => whnf)
    | (show CallK _ _ _ _ _ _ _; refine CallK.rv c_shown (by repeat' (first | exact trivial | exact .head _ | apply List.Mem.tail | apply And.intro)) (Nx.go ?_))
    | (show CallK _ _ 21 _ _ _ _; refine CallK.rv (c_bot k) (by repeat' (first | exact trivial | exact .head _ | apply List.Mem.tail | apply And.intro)) (Nx.go ?_))
    | (show CallK _ _ 22 _ _ _ _; refine CallK.rf (c_ofI k a (by omega) (by omega) s1) (by repeat' (first | exact trivial | exact .head _ | apply List.Mem.tail | apply And.intro)) (fun v1 g1 => Nx.go ?_))
    | (show CallK _ _ 22 _ _ _ _; refine CallK.rf (c_ofI k b (by omega) (by omega) s2) (by repeat' (first | exact trivial | exact .head _ | apply List.Mem.tail | apply And.intro)) (fun v2 g2 => Nx.go ?_))
    | (show CallK _ _ 22 _ _ _ _; refine CallK.rf (c_ofI k c (by omega) (by omega) s3) (by repeat' (first | exact trivial | exact .head _ | apply List.Mem.tail | apply And.intro)) (fun v3 g3 => Nx.go ?_))
    | (show CallK _ _ 13 _ _ _ _; refine CallK.rf (c_MrgI v1 v2 g1 g2) (by repeat' (first | exact trivial | exact .head _ | apply List.Mem.tail | apply And.intro)) (fun v4 g4 => Nx.go ?_))
    | (show CallK _ _ 13 _ _ _ _; refine CallK.rf (c_MrgI v4 v3 g4 g3) (by repeat' (first | exact trivial | exact .head _ | apply List.Mem.tail | apply And.intro)) (fun v5 g5 => Nx.go ?_))
    | (show CallK _ _ 13 _ _ _ _; refine CallK.rf (c_MrgI v2 v3 g2 g3) (by repeat' (first | exact trivial | exact .head _ | apply List.Mem.tail | apply And.intro)) (fun v6 g6 => Nx.go ?_))
    | (show CallK _ _ 13 _ _ _ _; refine CallK.rf (c_MrgI v1 v6 g1 g6) (by repeat' (first | exact trivial | exact .head _ | apply List.Mem.tail | apply And.intro)) (fun v7 g7 => Nx.go ?_))
    | (show CallK _ _ 20 _ _ _ _; refine CallK.rv (c_sameT v5 v7 (same_all g5 g7 (by omega) (by rw [List.append_assoc]))) (by repeat' (first | exact trivial | exact .head _ | apply List.Mem.tail | apply And.intro)) (Nx.go ?_))
    | (refine Idx.nat ?_; conv => whnf)
    | (refine Idx.is _ rfl ?_; conv => whnf)
    | (show RdB _ _ _; refine RdB.mk' (by repeat (first | exact .head _ | apply List.Mem.tail)) (Nx.go ?_))
    | (show SlW _ _ _ _ _ _ _ _ _; refine SlW.s (by repeat (first | exact .head _ | apply List.Mem.tail)) (by omega) (fun ys hys hcs => Nx.go ?_))
    | (refine AR.i64 (by omega) ?_; conv => whnf)
    | (refine AR.u64 (by omega) ?_; conv => whnf)
    | (refine AR.u8 (by omega) ?_; conv => whnf)
    | (refine Ob.mk (by omega) ?_; conv => whnf)
    | (refine BR.mk (fun h => ?_) (fun h => ?_) <;> (first | rw [Bool.not_eq_true'] at h | rw [Bool.not_eq_false'] at h | skip) <;> (try rw [h]) <;> (first | replace h := of_decide_eq_true h | replace h := of_decide_eq_false h | replace h := eq_of_beq h | replace h := bne_iff_ne.1 h | replace h := beq_eq_false_iff_ne.1 h | replace h := bne_eq_false_iff_eq.1 h | skip) <;> conv => whnf)
  all_goals try rfl
  have h8 : ((max (max a.toNat b.toNat) c.toNat : Nat) : Int) ≤ v5.level := lev_ge g5
  exact congrArg SV.bool (decide_eq_true (by omega))
end Go.Proofs.YtikjigkkhdkibaaGreatDoor

/- ladder: M35 -/
namespace Go.Proofs.YtikjigkkhdkibaaGreatDoor
open Go.Proofs.YtikjigkkhdkibaaGreatDoor.W
set_option maxRecDepth 100000
set_option linter.unusedVariables false
open Go.RowKit Go.Extern.Stop Go.Stop Go.Extern
theorem as_valueOfP (t : Addr) (w : World) : (ReflectliteValue.unpack (.iface 179 (.pointer (some t)))).run Tryz.prog w
    = .ok (.agg #[.pointer (some ⟨8, 179, none⟩), .pointer (some ⟨w.heap.size, 0, none⟩), .int .u64 150]) (w.alloc (.cells #[.pointer (some t)] 179)) := by kernel_rfl
theorem as_typeP (a : Addr) (w : World) : (ReflectliteValue.methodAny (ReflectliteValue.valueError "reflectlite.Value.Type" 0) (fun t _ _ _ => ReflectliteType.toType t) #[.agg #[.pointer (some ⟨8, 179, none⟩), .pointer (some a), .int .u64 150]]).run Tryz.prog w
    = .ok (.iface 225 (.agg #[.pointer (some ⟨8, 179, none⟩)])) w := by kernel_rfl
theorem as_methodKind (h : Value) (w : World) : (Go.method 478 225 (.agg #[h]) "Kind").run Tryz.prog w = .ok (163, h) w := by kernel_rfl
theorem as_kindP (w : World) : ((ReflectliteType.abiMethod fun t => (fun a : Nat => Value.int IntKind.u8 (a : Int)) <$> Rtype.kind t) #[.pointer (some ⟨8, 179, none⟩)]).run Tryz.prog w = .ok (.int .u8 22) w := by kernel_rfl
theorem as_kindE (w : World) : ((ReflectliteType.abiMethod fun t => (fun a : Nat => Value.int IntKind.u8 (a : Int)) <$> Rtype.kind t) #[.pointer (some ⟨8, 79, none⟩)]).run Tryz.prog w = .ok (.int .u8 25) w := by kernel_rfl
theorem as_rlm (z : Sem Value) (f : TypeId → Addr → Nat → Nat → Sem Value) (v : Value) :
    ReflectliteValue.method z f #[v] = (do match ← ReflectliteValue.parts v with | none => z | some (t, a, fl) => f t a fl (fl % 32)) := rfl
theorem as_partsP (a : Addr) (w : World) : (ReflectliteValue.parts (.agg #[.pointer (some ⟨8, 179, none⟩), .pointer (some a), .int .u64 150])).run Tryz.prog w = .ok (some (179, a, 150)) w := by kernel_rfl
theorem as_isNil (a p : Addr) (W : World) (ha : W.cell? a = some (.pointer (some p))) :
    (ReflectliteValue.method (ReflectliteValue.valueError "reflectlite.Value.IsNil" 0) ReflectliteValue.isNil #[.agg #[.pointer (some ⟨8, 179, none⟩), .pointer (some a), .int .u64 150]]).run Tryz.prog W = .ok (.bool false) W := by
  rw [as_rlm]
  simp only [Sem.run_bind, as_partsP, Result.andThen]
  simp [ReflectliteValue.isNil, loadVar, isAgg, underlying, Tryz.underlying179, ha, Result.andThen]
theorem as_methodElem (h : Value) (w : World) : (Go.method 478 225 (.agg #[h]) "Elem").run Tryz.prog w = .ok (307, .agg #[h]) w := by kernel_rfl
theorem as_methodAT (h : Value) (w : World) : (Go.method 478 225 (.agg #[h]) "AssignableTo").run Tryz.prog w = .ok (305, .agg #[h]) w := by kernel_rfl
theorem as_methodIM (h : Value) (w : World) : (Go.method 478 225 (.agg #[h]) "Implements").run Tryz.prog w = .ok (308, .agg #[h]) w := by kernel_rfl
theorem as_elemP (w : World) : (ReflectliteType.method ReflectliteType.elem #[.agg #[.pointer (some ⟨8, 179, none⟩)]]).run Tryz.prog w = .ok (.iface 225 (.agg #[.pointer (some ⟨8, 79, none⟩)])) w := by kernel_rfl
theorem as_implE (w : World) : (ReflectliteType.relation "Implements" ReflectliteType.implements_ #[.agg #[.pointer (some ⟨8, 79, none⟩)], .iface 225 (.agg #[.pointer (some ⟨8, 74, none⟩)])]).run Tryz.prog w = .ok (.bool true) w := by kernel_rfl
theorem as_typeOfE (v : Value) (w : World) : (ReflectliteType.typeOf #[.iface 79 v]).run Tryz.prog w = .ok (.iface 225 (.agg #[.pointer (some ⟨8, 79, none⟩)])) w := by kernel_rfl
theorem as_assignE (w : World) : (ReflectliteType.relation "AssignableTo" ReflectliteType.assignableTo #[.agg #[.pointer (some ⟨8, 79, none⟩)], .iface 225 (.agg #[.pointer (some ⟨8, 79, none⟩)])]).run Tryz.prog w = .ok (.bool true) w := by kernel_rfl
theorem as_valueOfE (n : Int) (w : World) : (ReflectliteValue.unpack (.iface 79 (.agg #[.int .i64 n]))).run Tryz.prog w
    = .ok (.agg #[.pointer (some ⟨8, 79, none⟩), .pointer (some ⟨w.heap.size, 0, none⟩), .int .u64 153]) (w.alloc (.cells #[.int .i64 n] 79)) := by kernel_rfl
theorem as_elemOfP (w : World) : (Rtype.elem? 179).run Tryz.prog w = .ok (some 79) w := by kernel_rfl
theorem as_mkE (p : Addr) (w : World) : (ReflectliteValue.mk 79 p ReflectliteValue.flagAddr).run Tryz.prog w = .ok (.agg #[.pointer (some ⟨8, 79, none⟩), .pointer (some p), .int .u64 409]) w := by kernel_rfl
theorem as_elemV (a p : Addr) (W : World) (ha : W.cell? a = some (.pointer (some p))) :
    (ReflectliteValue.method (ReflectliteValue.valueError "reflectlite.Value.Elem" 0) ReflectliteValue.elem #[.agg #[.pointer (some ⟨8, 179, none⟩), .pointer (some a), .int .u64 150]]).run Tryz.prog W
      = .ok (.agg #[.pointer (some ⟨8, 79, none⟩), .pointer (some p), .int .u64 409]) W := by
  rw [as_rlm]
  simp only [Sem.run_bind, as_partsP, Result.andThen]
  simp [ReflectliteValue.elem, loadVar, isAgg, underlying, Tryz.underlying179, ha, Result.andThen, as_elemOfP, as_mkE]
theorem as_rls (v x : Value) : ReflectliteValue.set #[v, x] = (do
    let (some (dst, a, fl), some (src, b, _)) := (← ReflectliteValue.parts v, ← ReflectliteValue.parts x)
      | unsupported (.noEntry "extern/(internal/reflectlite.Value).Set.zeroValue")
    if fl / ReflectliteValue.flagAddr % 2 == 0 then unsupported (.noEntry "extern/(internal/reflectlite.Value).Set.unaddressable")
    let val ← loadVar src b
    if ← Rtype.directlyAssignable dst src then storeVar dst a val
    else if ← Rtype.implements dst src then
      if (← Rtype.kind src) == 20 then
        match val with
        | .nilIface => unsupported (.noEntry "extern/reflectlite: a nil value of one interface type handed on as a value of another")
        | _ => storeVar dst a val
      else storeVar dst a (.iface src val)
    else panicString ("reflectlite.Set: value of type " ++ (← Rtype.spelt src) ++ " is not assignable to type " ++ (← Rtype.spelt dst))
    pure (.tuple #[])) := rfl
theorem as_partsA (a : Addr) (w : World) : (ReflectliteValue.parts (.agg #[.pointer (some ⟨8, 79, none⟩), .pointer (some a), .int .u64 409])).run Tryz.prog w = .ok (some (79, a, 409)) w := by kernel_rfl
theorem as_partsE (a : Addr) (w : World) : (ReflectliteValue.parts (.agg #[.pointer (some ⟨8, 79, none⟩), .pointer (some a), .int .u64 153])).run Tryz.prog w = .ok (some (79, a, 153)) w := by kernel_rfl
theorem as_direct (w : World) : (Rtype.directlyAssignable 79 79).run Tryz.prog w = .ok true w := by kernel_rfl
theorem as_loadE (b : Nat) (n : Int) (W : World) (hb : W.cell? ⟨b, 0, none⟩ = some (.int .i64 n)) : (loadVar 79 ⟨b, 0, none⟩).run Tryz.prog W = .ok (.agg #[.int .i64 n]) W := by
  simp [loadVar, isAgg, underlying, Tryz.underlying79, Tryz.sizeOf79, Result.andThen, loadCells, loadCellsFrom, Addr.add, hb]
theorem as_set (ta b : Nat) (n : Int) (old : Value) (W : World) (hb : W.cell? ⟨b, 0, none⟩ = some (.int .i64 n)) (ht : W.cell? ⟨ta, 0, none⟩ = some old) (hf : W.frozen? ⟨ta, 0, none⟩ = false) :
    (ReflectliteValue.set #[.agg #[.pointer (some ⟨8, 79, none⟩), .pointer (some ⟨ta, 0, none⟩), .int .u64 409], .agg #[.pointer (some ⟨8, 79, none⟩), .pointer (some ⟨b, 0, none⟩), .int .u64 153]]).run Tryz.prog W
      = .ok (.tuple #[]) (W.setCell ⟨ta, 0, none⟩ (.int .i64 n)) := by
  rw [as_rls]
  simp only [Sem.run_bind, as_partsA, as_partsE, Result.andThen]
  simp [ReflectliteValue.flagAddr, as_loadE b n W hb, Result.andThen, as_direct, storeVar, Value.cells, storeCells, Addr.add]
  rw [run_store Tryz.prog W ⟨ta, 0, none⟩ _ _ (by rfl)]
  simp [ht, hf]
set_option maxHeartbeats 4000000 in
theorem as_hit (n : Int) (t : Nat) (old : Value) (w : World) (hg : w.cell? ⟨2, 0, none⟩ = some (.iface 225 (.agg #[.pointer (some ⟨8, 74, none⟩)]))) (ht0 : w.cell? ⟨t, 0, none⟩ = some old) (hf0 : w.frozen? ⟨t, 0, none⟩ = false) :
    Calls Tryz.prog 113 #[.iface 79 (.agg #[.int .i64 n]), .iface 179 (.pointer (some ⟨t, 0, none⟩))] w fun ev w' => ev = .returned (.bool true) ∧ w' = ((((w.alloc (.cells #[.pointer (some ⟨t, 0, none⟩)] 179)).alloc (.cells #[.pointer (some ⟨8, 179, none⟩), .pointer (some ⟨w.heap.size, 0, none⟩), .int .u64 150] 205)).alloc (.cells #[.pointer (some ⟨8, 179, none⟩), .pointer (some ⟨w.heap.size, 0, none⟩), .int .u64 150] 205)).alloc (.cells #[.int .i64 n] 79)).setCell ⟨t, 0, none⟩ (.int .i64 n) := by
  have h6 := @run_callFunc_extern Tryz.prog 131 _ (fun args => ReflectliteValue.unpack (args.getD 0 (.tuple #[]))) Tryz.func131 (by kernel_rfl) (by kernel_rfl) (by kernel_rfl) (by kernel_rfl)
  have h7 := @run_callFunc_extern Tryz.prog 132 _ (ReflectliteValue.methodAny (ReflectliteValue.valueError "reflectlite.Value.Type" 0) (fun t _ _ _ => ReflectliteType.toType t)) Tryz.func132 (by kernel_rfl) (by kernel_rfl) (by kernel_rfl) (by kernel_rfl)
  have h8 := @run_callFunc_extern Tryz.prog 133 _ (ReflectliteValue.method (ReflectliteValue.valueError "reflectlite.Value.IsNil" 0) ReflectliteValue.isNil) Tryz.func133 (by kernel_rfl) (by kernel_rfl) (by kernel_rfl) (by kernel_rfl)
  have h27 := @run_callFunc_extern Tryz.prog 163 _ (ReflectliteType.abiMethod fun t => do pure (.int .u8 (← Rtype.kind t))) Tryz.func163 (by kernel_rfl) (by kernel_rfl) (by kernel_rfl) (by kernel_rfl)
  have h37 := @run_callFunc_extern Tryz.prog 307 _ (ReflectliteType.method ReflectliteType.elem) Tryz.func307 (by kernel_rfl) (by kernel_rfl) (by kernel_rfl) (by kernel_rfl)
  have h38 := @run_callFunc_extern Tryz.prog 308 _ (ReflectliteType.relation "Implements" ReflectliteType.implements_) Tryz.func308 (by kernel_rfl) (by kernel_rfl) (by kernel_rfl) (by kernel_rfl)
  have h10 := @run_callFunc_extern Tryz.prog 124 _ ReflectliteType.typeOf Tryz.func124 (by kernel_rfl) (by kernel_rfl) (by kernel_rfl) (by kernel_rfl)
  have h35 := @run_callFunc_extern Tryz.prog 305 _ (ReflectliteType.relation "AssignableTo" ReflectliteType.assignableTo) Tryz.func305 (by kernel_rfl) (by kernel_rfl) (by kernel_rfl) (by kernel_rfl)
  have h11 := @run_callFunc_extern Tryz.prog 144 _ (ReflectliteValue.method (ReflectliteValue.valueError "reflectlite.Value.Elem" 0) ReflectliteValue.elem) Tryz.func144 (by kernel_rfl) (by kernel_rfl) (by kernel_rfl) (by kernel_rfl)
  have h12 := @run_callFunc_extern Tryz.prog 145 _ ReflectliteValue.set Tryz.func145 (by kernel_rfl) (by kernel_rfl) (by kernel_rfl) (by kernel_rfl)
  have tO := as_typeOfE
  have mA := as_methodAT
  have a25 := as_assignE
  have v25 := as_valueOfE
  have f6 := as_valueOfP
  have f7 := as_typeP
  have mK := as_methodKind
  have mE := as_methodElem
  have mI := as_methodIM
  have k27 := as_kindP
  have k25 := as_kindE
  have e27 := as_elemP
  have i25 := as_implE
  have n8 := as_isNil ⟨w.heap.size, 0, none⟩ ⟨t, 0, none⟩ ((w.alloc (.cells #[.pointer (some ⟨t, 0, none⟩)] 179)).alloc (.cells #[.pointer (some ⟨8, 179, none⟩), .pointer (some ⟨w.heap.size, 0, none⟩), .int .u64 150] 205)) (by simp)
  have hlt : 2 < w.heap.size := by
    rcases Nat.lt_or_ge 2 w.heap.size with h | h
    · exact h
    · simp [World.cell?, Array.getElem?_eq_none h] at hg
  have hg2 : ((w.alloc (.cells #[.pointer (some ⟨t, 0, none⟩)] 179)).alloc (.cells #[.pointer (some ⟨8, 179, none⟩), .pointer (some ⟨w.heap.size, 0, none⟩), .int .u64 150] 205)).cell? ⟨2, 0, none⟩ = some (.iface 225 (.agg #[.pointer (some ⟨8, 74, none⟩)])) := by
    rw [World.cell?_alloc_lt _ _ ⟨2, 0, none⟩ (by simp; omega), World.cell?_alloc_lt _ _ ⟨2, 0, none⟩ hlt]; exact hg
  have htl : t < w.heap.size := by
    rcases Nat.lt_or_ge t w.heap.size with h | h
    · exact h
    · simp [World.cell?, Array.getElem?_eq_none h] at ht0
  have el := as_elemV ⟨w.heap.size, 0, none⟩ ⟨t, 0, none⟩ (((w.alloc (.cells #[.pointer (some ⟨t, 0, none⟩)] 179)).alloc (.cells #[.pointer (some ⟨8, 179, none⟩), .pointer (some ⟨w.heap.size, 0, none⟩), .int .u64 150] 205)).alloc (.cells #[.pointer (some ⟨8, 179, none⟩), .pointer (some ⟨w.heap.size, 0, none⟩), .int .u64 150] 205)) (by rw [World.cell?_alloc_lt _ _ ⟨w.heap.size, 0, none⟩ (by simp; omega)]; simp)
  have st := as_set t (w.heap.size + 1 + 1 + 1) n old ((((w.alloc (.cells #[.pointer (some ⟨t, 0, none⟩)] 179)).alloc (.cells #[.pointer (some ⟨8, 179, none⟩), .pointer (some ⟨w.heap.size, 0, none⟩), .int .u64 150] 205)).alloc (.cells #[.pointer (some ⟨8, 179, none⟩), .pointer (some ⟨w.heap.size, 0, none⟩), .int .u64 150] 205)).alloc (.cells #[.int .i64 n] 79))
    (by rw [World.cell?_alloc_at _ _ _ _ (by simp)]; rfl)
    (by rw [World.cell?_alloc_lt _ _ ⟨t, 0, none⟩ (by simp; omega), World.cell?_alloc_lt _ _ ⟨t, 0, none⟩ (by simp; omega), World.cell?_alloc_lt _ _ ⟨t, 0, none⟩ (by simp; omega), World.cell?_alloc_lt _ _ ⟨t, 0, none⟩ htl]; exact ht0)
    (by rw [World.frozen?_alloc_old _ _ ⟨t, 0, none⟩ (by simp; omega), World.frozen?_alloc_old _ _ ⟨t, 0, none⟩ (by simp; omega), World.frozen?_alloc_old _ _ ⟨t, 0, none⟩ (by simp; omega), World.frozen?_alloc_old _ _ ⟨t, 0, none⟩ (Nat.ne_of_lt htl)]; exact hf0)
  go_enter Tryz.func113, Tryz.ntmps113
  go_wp2
  refine wp_loop_rounds 1 ?_
  rw [rounds_succ]
  go_wp2
  go_ret
  exact ⟨rfl, rfl⟩
end Go.Proofs.YtikjigkkhdkibaaGreatDoor
