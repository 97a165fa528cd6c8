/- YtikjigkkhdkibaaGreatDoorTB: a part of the proofs of given statements of this seat; no condition beyond them. -/
import Derived.Test.YtikjigkkhdkibaaGreatDoorTA
import Derived.Test.YtikjigkkhdkibaaGreatDoorWC
import Derived.Shelf.SlIterI.Nil
import Derived.Shelf.SortM.Plain
import Derived.Shelf.SortM.SortNone
import Derived.Shelf.Strings.Repeat
import Derived.Test.YtikjigkkhdkibaaGreatDoorProg
set_option linter.unusedVariables false
/- ladder: M6 -/
namespace Go.Proofs.YtikjigkkhdkibaaGreatDoor
open Go.Proofs.YtikjigkkhdkibaaGreatDoor.W
set_option maxRecDepth 100000
set_option linter.unusedVariables false
/-- how numbers are put among some -/
structure PutJ where
  i : Nat
  y : Sli UInt64
theorem ofE_snoc (a l : List UInt64) (n : UInt64) : ofE a (l ++ [n]) = insU n (ofE a l) := by simp [ofE]
theorem insU_len (n : UInt64) (l : List UInt64) : l.length ≤ (insU n l).length ∧ (insU n l).length ≤ l.length + 1 := by
  induction l with
  | nil => simp [insU]
  | cons a l ih =>
    simp only [insU]
    split
    · simp
    · split
      · simp only [List.length_cons]; omega
      · simp
theorem ofE_len2 (a l : List UInt64) : (ofE a l).length ≤ a.length + l.length := by
  induction l generalizing a with
  | nil => exact Nat.le_refl _
  | cons n l ih =>
    have h1 := ih (insU n a)
    have h2 := (insU_len n a).2
    show (ofE (insU n a) l).length ≤ a.length + (l.length + 1)
    omega
theorem ofE_self {l : List UInt64} (h : risesU l = true) : ofE [] l = l := rises_ext (risesU_ofE rfl) h fun b => by rw [mem_ofE]; simp
theorem ofE_app (x y : List UInt64) (h : risesU x = true) : ofE [] (x ++ y) = ofE x y := by
  have : ofE [] (x ++ y) = ofE (ofE [] x) y := by simp [ofE]
  rw [this, ofE_self h]
def PutI (x m : List UInt64) (j : PutJ) : Prop := j.i ≤ m.length ∧ j.y.l = ofE x (m.take j.i) ∧ j.y.l.length ≤ j.y.c
theorem PutI.len {x m : List UInt64} {j : PutJ} (h : PutI x m j) (hx : x.length ≤ 1000) (hm : m.length ≤ 1000) : j.y.l.length ≤ 2000 := by
  have h1 := ofE_len2 x (m.take j.i)
  rw [h.2.1]
  rw [List.length_take] at h1
  omega
theorem PutI.rises {x m : List UInt64} {j : PutJ} (h : PutI x m j) (hr : risesU x = true) : risesU j.y.l = true := by rw [h.2.1]; exact risesU_ofE hr
theorem PutI.same {x m : List UInt64} {j : PutJ} {n : UInt64} {k : Nat} (h : PutI x m j) (hr : risesU x = true) (hn : m[j.i]? = some n) (ha : AtU j.y.l n k) (hk : j.y.l[k]? = some n) : PutI x m ⟨j.i + 1, j.y⟩ := by
  refine ⟨(List.getElem?_eq_some_iff.1 hn).1, ?_, h.2.2⟩
  show j.y.l = ofE x (m.take (j.i + 1))
  rw [take_snoc hn, ofE_snoc, ← h.2.1, insU_at (h.rises hr) ha.le ha.lt ha.ge, if_pos hk]
theorem PutI.more {x m : List UInt64} {j : PutJ} {n : UInt64} {k : Nat} (h : PutI x m j) (hr : risesU x = true) (hn : m[j.i]? = some n) (ha : AtU j.y.l n k) (hk : j.y.l[k]? ≠ some n) {y : Sli UInt64} (hy : y.l = j.y.l.take k ++ n :: j.y.l.drop k) (hyc : y.l.length ≤ y.c) : PutI x m ⟨j.i + 1, y⟩ := by
  refine ⟨(List.getElem?_eq_some_iff.1 hn).1, ?_, hyc⟩
  show y.l = ofE x (m.take (j.i + 1))
  rw [take_snoc hn, ofE_snoc, ← h.2.1, insU_at (h.rises hr) ha.le ha.lt ha.ge, if_neg hk, hy]

theorem row_put {k : Nat} {l a b c : List UInt64} {n : UInt64} (ha : a = (l.take k).drop 0) (hb : b = (l.take l.length).drop k) (hk : k ≤ l.length) (hc : c = [n]) :
    (a.take (min a.length (k : Int).toNat) ++ (List.replicate (k : Int).toNat 0).drop (min a.length (k : Int).toNat)) ++ c ++ b = l.take k ++ n :: l.drop k := by
  subst ha hb hc
  have e1 : ((l.take k).drop 0).length = k := by rw [List.drop_zero, List.length_take]; omega
  rw [Int.toNat_natCast, e1, Nat.min_self, List.drop_eq_nil_of_le (show (List.replicate k (0 : UInt64)).length ≤ k by simp), List.append_nil, List.drop_zero, List.take_take, Nat.min_self, List.take_length, List.append_assoc]
  rfl

theorem c_find (b : Nat) (x : Sli UInt64) (n : UInt64) (hr : risesU x.l = true) (hx : x.l.length ≤ 1000000) : Ct Tryz.prog 202 [(b, .cells [x.sv] 22)] [.int .u64 n.toNat, .own 0 b 0] [x.f encU 1] (Rs (fun k : Nat => .tup [.int .i64 k, .bool (decide (x.l[k]? = some n))]) (fun _ => [(b, .cells [x.sv] 22)]) (fun _ => [x.f encU 1]) (AtU x.l n)) := by
  refine Ct.post (Ct.of Tryz.func202 rfl (n := 10) rfl rfl rfl ?_)
  conv => whnf
  repeat' first
    | (refine Ob.mk rfl ?_; conv => whnf)
    | (refine Nx.mk ?_; conv => whnf)
    | (show CallK _ _ 203 _ _ _ _; refine CallK.rf (c_bs x n hr hx) (by repeat' (first | exact trivial | exact .head _ | apply List.Mem.tail | apply And.intro)) (fun k hk => Nx.go ?_))
    | (show Post _ _ _ _ _; exact Rs.post k rfl (Imp.to 1 rfl (by repeat' (first | exact trivial | exact .head _ | apply List.Mem.tail | apply And.intro))) hk)
    | (show RdB _ _ _; refine RdB.mk' (by repeat (first | exact .head _ | apply List.Mem.tail)) (Nx.go ?_))
    | (refine Ob.mk (by omega) ?_; conv => whnf)

theorem c_eput (x m : Sli UInt64) (hr : risesU x.l = true) (hx : x.l.length ≤ 1000) (hm : m.l.length ≤ 1000) : Ct Tryz.prog 196 [] [x.sv, m.sv] [x.f encU 1, m.f encU 1] (Rs (fun y : Sli UInt64 => y.sv) (fun _ => []) (fun y => [y.f encU 1]) (fun y => y.l = ofE x.l m.l)) := by
  refine Ct.pure (List.Mem.head _) slF_len fun hxl => ?_
  refine Ct.post (Ct.of Tryz.func196 rfl (n := 46) rfl rfl rfl ?_)
  conv => whnf
  repeat' first
    | (show SemO _ _ (.buildSlice _ _ #[(0, .tmp 37)]) _ _ _ _ _; refine SemO.lit ?_; (conv => whnf); show BsV _ _ _ _ _; refine BsV.s [xe] (by repeat (first | exact .nil | refine .cons (by first | rfl | exact encB_of (by omega) | exact encU_U (by omega)) ?_)) (fun xo _ => okU xo) (fun ys hys => Nx.go ?_))
    | (show SemO _ _ (.makeSlice _ _ _) _ _ _ _ _; refine SemO.make ?_; (conv => whnf); refine ⟨⟨UInt64, encU, 0, rfl, okU _, ?_, ?_, ?_, ?_, fun bk2 => ?_⟩⟩; rotate_left 4; conv => whnf)
    | (show SemO _ _ (.call ⟨.builtin .copy, _, _⟩) _ _ _ _ _; refine SemO.copy ?_; (conv => whnf); refine Ob.mk ⟨rfl, rfl, rfl, rfl, rfl⟩ ?_; refine ⟨⟨rfl, _, .fact (by repeat (first | exact .head _ | apply List.Mem.tail)), ?_⟩⟩; conv => whnf)
    | (show SemO _ _ (.call ⟨.builtin .append, _, _⟩) _ _ _ _ _; refine SemO.appendVec ?_; (conv => whnf); refine Ob.mk ⟨rfl, rfl, rfl, rfl, rfl⟩ ?_)
    | (show AppV _ _ _ _ _ _ _ _ _ _ _ _ _ _; refine ⟨rfl, _, .fact (by repeat (first | exact .head _ | apply List.Mem.tail)), app_le (N := 1048576) ?_ (of_decide_eq_true (by kernel_rfl)), ?_, fun bv pv cv hcv => Nx.go ?_⟩)
    | (refine Ob.mk rfl ?_; conv => whnf)
    | (refine Nx.mk ?_; conv => whnf)
    | (refine BR.yes ?_; conv => whnf)
    | (refine BR.no ?_; conv => whnf)
    | (intro bk; conv => whnf)
    | (show CallK _ _ 202 _ _ _ _; refine CallK.lendS [0] (c_find bk j.y xe (hi.rises hr) (by have := hi.len hx hm; omega)) ⟨rfl, trivial⟩ rfl rfl rfl (by repeat' (first | exact trivial | exact .head _ | apply List.Mem.tail | apply And.intro)) (fun k hk => ⟨rfl, Nx.go ?_⟩))
    | (show SemC _ _ _ (.loop (.seq (.region 3 _ _) _)) _ _ _ _ _; refine SemC.loopU (c := (.seq (.region 3 _ _) _)) (fun j : PutJ => [(14, .int .i64 j.i)]) (fun j => [(bk, .cells [j.y.sv] 22)]) (fun j => [j.y.f encU 1, x.f encU 1, m.f encU 1]) (fun j => PutI x.l m.l j) (fun j => m.l.length - j.i) ⟨0, x⟩ ?_; (conv => whnf); refine LoopQ.mk ?_ ⟨(by repeat (first | exact trivial | refine ⟨rfl, ?_⟩ | refine ⟨congrArg (Value.int _) (by omega), ?_⟩)), (Imp.to 1 rfl (by repeat' (first | exact trivial | exact .head _ | apply List.Mem.tail | apply And.intro)))⟩ (fun j hi => ?_))
    | (have hft : m.l[j.i]? = some xe := hxe; have hkk : j.y.l[k]? = some xe := (by assumption); show Exists _; refine Exists.intro (⟨j.i + 1, j.y⟩) ⟨?_, ?_, rfl, ⟨(by repeat (first | exact trivial | refine ⟨rfl, ?_⟩ | refine ⟨congrArg (Value.int _) (by omega), ?_⟩)), Imp.to 1 rfl (by repeat' (first | exact trivial | exact .head _ | apply List.Mem.tail | apply And.intro))⟩⟩)
    | (show Post _ _ _ _ _; refine Rs.post j.y rfl (Imp.fs (by repeat' (first | exact trivial | exact .head _ | apply List.Mem.tail | apply And.intro))) ?_)
    | (show Exists _; refine Exists.intro (⟨j.i + 1, ⟨_, pv, cv⟩⟩) ⟨?_, ?_, rfl, ⟨(by repeat (first | exact trivial | refine ⟨rfl, ?_⟩ | refine ⟨congrArg (Value.int _) (by omega), ?_⟩)), (Imp.pubS 1 rfl ?_).trans ((Imp.recell 0 rfl ?_).trans (Imp.to 1 rfl (by repeat' (first | exact trivial | exact .head _ | apply List.Mem.tail | apply And.intro))))⟩⟩)
    | (refine SemC.draw 9 [1] [.t 0, .t 1, .m 4, .m 5, .m 6, .s 2, .w 3, .l 7, .l 8] (by kernel_rfl) (by kernel_rfl) ?_; conv => whnf)
    | (refine Idx.nat ?_; conv => whnf)
    | (refine Idx.is _ rfl ?_; conv => whnf)
    | (show HasP _ _ _ _ _ _; refine HasP.mk' (by repeat (first | exact .head _ | apply List.Mem.tail)) (Nx.go ?_))
    | (show RdE _ _ _ _ _ _ _; refine RdE.s (by repeat (first | exact .head _ | apply List.Mem.tail)) (by first | omega | (have h8 := hi.len hx hm; have h9 := hk.le; have h10 := hi.2.2; omega) | (have h8 := hi.len hx hm; omega)) (fun xe hxe => Nx.go ?_))
    | (show RdB _ _ _; refine RdB.mk' (by repeat (first | exact .head _ | apply List.Mem.tail)) (Nx.go ?_))
    | (show SlW _ _ _ _ _ _ _ _ _; refine SlW.s (by repeat (first | exact .head _ | apply List.Mem.tail)) (by first | omega | (have h8 := hi.len hx hm; have h9 := hk.le; have h10 := hi.2.2; omega) | (have h8 := hi.len hx hm; omega)) (fun ys hys hcs => Nx.go ?_))
    | (refine AR.i64 (by first | omega | (have h8 := hi.len hx hm; have h9 := hk.le; have h10 := hi.2.2; omega) | (have h8 := hi.len hx hm; omega)) ?_; conv => whnf)
    | (refine AR.u64 (by first | omega | (have h8 := hi.len hx hm; have h9 := hk.le; have h10 := hi.2.2; omega) | (have h8 := hi.len hx hm; omega)) ?_; conv => whnf)
    | (refine AR.u8 (by first | omega | (have h8 := hi.len hx hm; have h9 := hk.le; have h10 := hi.2.2; omega) | (have h8 := hi.len hx hm; omega)) ?_; conv => whnf)
    | (refine Ob.mk (by first | omega | (have h8 := hi.len hx hm; have h9 := hk.le; have h10 := hi.2.2; omega) | (have h8 := hi.len hx hm; omega)) ?_; conv => whnf)
    | (refine BR.mk (fun h => ?_) (fun h => ?_) <;> (first | rw [Bool.not_eq_true'] at h | rw [Bool.not_eq_false'] at h | skip) <;> (try rw [h]) <;> (first | replace h := of_decide_eq_true h | replace h := of_decide_eq_false h | replace h := eq_of_beq h | replace h := bne_iff_ne.1 h | replace h := beq_eq_false_iff_ne.1 h | replace h := bne_eq_false_iff_eq.1 h | skip) <;> conv => whnf)
  · exact ⟨Nat.zero_le _, rfl, hxl.2.1⟩
  · exact hi.same hr hxe hk h
  · show m.l.length - (j.i + 1) < m.l.length - j.i; omega
  all_goals (try (have e1 := hi.len hx hm; have e2 := hk.le))
  · rw [hys]; simp only [List.length_singleton, Int.toNat_natCast]; omega
  · rw [hys]; simp only [List.length_singleton, Int.toNat_natCast]; omega
  · rename_i y2 hy2; rw [hys, hy2]; simp only [List.length_singleton, Int.toNat_natCast, List.length_drop, List.length_take]; omega
  · rename_i y2 hy2; rw [hys, hy2]; simp only [List.length_singleton, Int.toNat_natCast, List.length_drop, List.length_take]; omega
  · exact hi.more hr hxe hk h (row_put (by assumption) (by assumption) hk.le hys) (by rename_i y2 hy2 _ _ _ _; show List.length _ ≤ cv; rw [row_put (by assumption) (by assumption) hk.le hys]; rw [hys, hy2] at hcv; simp only [Int.toNat_natCast, List.length_drop, List.length_take, List.length_append, List.length_cons, List.length_nil] at hcv ⊢; omega)
  · show m.l.length - (j.i + 1) < m.l.length - j.i; omega
  · rename_i y2 hy2 _ _ _ _; rw [row_put (by assumption) (by assumption) hk.le hys]; rw [hys, hy2]; simp only [Int.toNat_natCast, List.length_drop, List.length_take, List.length_append, List.length_cons, List.length_nil]; omega
  · rename_i y2 hy2 _ _ _ _; show dens [SV.vec _ pv _ cv] = dens [SV.raw (.slice pv (List.length _) cv)]; rw [row_put (by assumption) (by assumption) hk.le hys, hys, hy2]; simp only [Int.toNat_natCast, List.length_drop, List.length_take, List.length_append, List.length_cons, List.length_nil, dens, SV.den]; congr 2; omega
  · omega
  · omega
  · refine Int.le_trans (Int.mul_le_mul_of_nonneg_left (show (j.y.l.length : Int) + 1 ≤ 3000 by omega) (Int.natCast_nonneg _)) ?_; exact of_decide_eq_true (by kernel_rfl)
  · omega
  · rw [hi.2.1, take_all (by omega)]
end Go.Proofs.YtikjigkkhdkibaaGreatDoor

/- ladder: M7 -/
namespace Go.Proofs.YtikjigkkhdkibaaGreatDoor
open Go.Proofs.YtikjigkkhdkibaaGreatDoor.W
set_option maxRecDepth 100000
set_option linter.unusedVariables false
theorem c_etold0  : Ct Tryz.prog 181 [] [.raw .nilIface] [] (Rv (.int .i64 0)) := by
  refine Ct.of Tryz.func181 rfl (n := 11) rfl rfl rfl ?_
  conv => whnf
  repeat' first
    | (refine Ob.mk rfl ?_; conv => whnf)
    | (refine Nx.mk ?_; conv => whnf)
    | (refine BR.yes ?_; conv => whnf)
    | (refine BR.no ?_; conv => whnf)
    | (intro bk; conv => whnf)
    | (refine Ob.mk (by omega) ?_; conv => whnf)
    | (refine BR.mk (fun h => ?_) (fun h => ?_) <;> (first | rw [Bool.not_eq_true'] at h | rw [Bool.not_eq_false'] at h | skip) <;> (try rw [h]) <;> (first | replace h := of_decide_eq_true h | replace h := of_decide_eq_false h | replace h := eq_of_beq h | replace h := bne_iff_ne.1 h | replace h := beq_eq_false_iff_ne.1 h | replace h := bne_eq_false_iff_eq.1 h | skip) <;> conv => whnf)
  all_goals rfl

theorem c_etold1  : Ct Tryz.prog 181 [] [.iface 258 (.agg [])] [] (Rv (.int .i64 60)) := by
  refine Ct.of Tryz.func181 rfl (n := 11) rfl rfl rfl ?_
  conv => whnf
  repeat' first
    | (refine Ob.mk rfl ?_; conv => whnf)
    | (refine Nx.mk ?_; conv => whnf)
    | (refine BR.yes ?_; conv => whnf)
    | (refine BR.no ?_; conv => whnf)
    | (intro bk; conv => whnf)
    | (refine Ob.mk (by omega) ?_; conv => whnf)
    | (refine BR.mk (fun h => ?_) (fun h => ?_) <;> (first | rw [Bool.not_eq_true'] at h | rw [Bool.not_eq_false'] at h | skip) <;> (try rw [h]) <;> (first | replace h := of_decide_eq_true h | replace h := of_decide_eq_false h | replace h := eq_of_beq h | replace h := bne_iff_ne.1 h | replace h := beq_eq_false_iff_ne.1 h | replace h := bne_eq_false_iff_eq.1 h | skip) <;> conv => whnf)
  all_goals rfl

theorem c_eput0 (m : Sli UInt64) (hm : m.l.length ≤ 1000) : Ct Tryz.prog 196 [] [nilU.sv, m.sv] [m.f encU 1] (Rs (fun y : Sli UInt64 => y.sv) (fun _ => []) (fun y => [y.f encU 1]) (fun y => y.l = ofE [] m.l)) :=
  ct_facts (c_eput nilU m rfl (Nat.zero_le _) hm) fun A w hh => Hold.cons ⟨by simp, rfl, ⟨by simp [flat], Nat.le_refl _, Nat.zero_le _, fun _ => rfl, .inl rfl⟩⟩ hh

theorem c_eofT (m : Sli UInt64) (hm : m.l.length ≤ 1000) (h : (ofE [] m.l).length ≤ 64) : Ct Tryz.prog 189 [] [m.sv] [m.f encU 1] (Rs (fun y : Sli UInt64 => .tup [.agg [y.sv], .raw .nilIface]) (fun _ => []) (fun y => [y.f encU 1]) (fun y => y.l = ofE [] m.l)) := by
  refine Ct.post (Ct.of Tryz.func189 rfl (n := 15) rfl rfl rfl ?_)
  conv => whnf
  repeat' first
    | (show BR (decide ((y.l.length : Int) > 64)) _ _; refine BR.noK (decide_eq_false (by rw [hy]; omega)) ?_; conv => whnf)
    | (refine Ob.mk rfl ?_; conv => whnf)
    | (refine Nx.mk ?_; conv => whnf)
    | (refine BR.yes ?_; conv => whnf)
    | (refine BR.no ?_; conv => whnf)
    | (intro bk; conv => whnf)
    | (show CallK _ _ 196 _ _ _ _; refine CallK.rf (c_eput0 m hm) (by repeat' (first | exact trivial | exact .head _ | apply List.Mem.tail | apply And.intro)) (fun y hy => Nx.go ?_))
    | (show Post _ _ _ _ _; exact Rs.post y rfl (Imp.fs (by repeat' (first | exact trivial | exact .head _ | apply List.Mem.tail | apply And.intro))) hy)
    | (refine AR.i64 (by omega) ?_; conv => whnf)
    | (refine AR.u64 (by omega) ?_; conv => whnf)
    | (refine AR.u8 (by omega) ?_; conv => whnf)
    | (refine Ob.mk (by omega) ?_; conv => whnf)
    | (refine BR.mk (fun h => ?_) (fun h => ?_) <;> (first | rw [Bool.not_eq_true'] at h | rw [Bool.not_eq_false'] at h | skip) <;> (try rw [h]) <;> (first | replace h := of_decide_eq_true h | replace h := of_decide_eq_false h | replace h := eq_of_beq h | replace h := bne_iff_ne.1 h | replace h := beq_eq_false_iff_ne.1 h | replace h := bne_eq_false_iff_eq.1 h | skip) <;> conv => whnf)

theorem c_eofN (m : Sli UInt64) (hm : m.l.length ≤ 1000) (h : 64 < (ofE [] m.l).length) : Ct Tryz.prog 189 [] [m.sv] [m.f encU 1] (Rv (.tup [.agg [nilU.sv], .iface 258 (.agg [])])) := by
  refine Ct.of Tryz.func189 rfl (n := 15) rfl rfl rfl ?_
  conv => whnf
  repeat' first
    | (show BR (decide ((y.l.length : Int) > 64)) _ _; refine BR.yesK (decide_eq_true (by rw [hy]; omega)) ?_; conv => whnf)
    | (refine Ob.mk rfl ?_; conv => whnf)
    | (refine Nx.mk ?_; conv => whnf)
    | (refine BR.yes ?_; conv => whnf)
    | (refine BR.no ?_; conv => whnf)
    | (intro bk; conv => whnf)
    | (show CallK _ _ 196 _ _ _ _; refine CallK.rf (c_eput0 m hm) (by repeat' (first | exact trivial | exact .head _ | apply List.Mem.tail | apply And.intro)) (fun y hy => Nx.go ?_))
    | (refine AR.i64 (by omega) ?_; conv => whnf)
    | (refine AR.u64 (by omega) ?_; conv => whnf)
    | (refine AR.u8 (by omega) ?_; conv => whnf)
    | (refine Ob.mk (by omega) ?_; conv => whnf)
    | (refine BR.mk (fun h => ?_) (fun h => ?_) <;> (first | rw [Bool.not_eq_true'] at h | rw [Bool.not_eq_false'] at h | skip) <;> (try rw [h]) <;> (first | replace h := of_decide_eq_true h | replace h := of_decide_eq_false h | replace h := eq_of_beq h | replace h := bne_iff_ne.1 h | replace h := beq_eq_false_iff_ne.1 h | replace h := bne_eq_false_iff_eq.1 h | skip) <;> conv => whnf)
  all_goals rfl

theorem c_eOfT (m : Sli UInt64) (hm : m.l.length ≤ 1000) (h : (ofE [] m.l).length ≤ 64) : Ct Tryz.prog 182 [] [m.sv] [m.f encU 1] (Rs (fun y : Sli UInt64 => .tup [.agg [y.sv], .int .i64 0]) (fun _ => []) (fun y => [y.f encU 1]) (fun y => y.l = ofE [] m.l)) := by
  refine Ct.post (Ct.of Tryz.func182 rfl (n := 14) rfl rfl rfl ?_)
  conv => whnf
  repeat' first
    | (refine Ob.mk rfl ?_; conv => whnf)
    | (refine Nx.mk ?_; conv => whnf)
    | (intro bk; conv => whnf)
    | (show CallK _ _ 189 _ _ _ _; refine CallK.rf (c_eofT m hm h) (by repeat' (first | exact trivial | exact .head _ | apply List.Mem.tail | apply And.intro)) (fun y hy => Nx.go ?_))
    | (show CallK _ _ _ _ _ _ _; refine CallK.rv c_etold0 (by repeat' (first | exact trivial | exact .head _ | apply List.Mem.tail | apply And.intro)) (Nx.go ?_))
    | (show Post _ _ _ _ _; exact Rs.post y rfl (Imp.fs (by repeat' (first | exact trivial | exact .head _ | apply List.Mem.tail | apply And.intro))) hy)
    | (refine SemC.draw 2 [] [.t 0, .t 1, .s 2, .l 3, .t 4] (by kernel_rfl) (by kernel_rfl) ?_; conv => whnf)
    | (show RdB _ _ _; refine RdB.mk' (by repeat (first | exact .head _ | apply List.Mem.tail)) (Nx.go ?_))
    | (refine Ob.mk (by omega) ?_; conv => whnf)

theorem c_eOfN (m : Sli UInt64) (hm : m.l.length ≤ 1000) (h : 64 < (ofE [] m.l).length) : Ct Tryz.prog 182 [] [m.sv] [m.f encU 1] (Rv (.tup [.agg [nilU.sv], .int .i64 60])) := by
  refine Ct.of Tryz.func182 rfl (n := 14) rfl rfl rfl ?_
  conv => whnf
  repeat' first
    | (refine Ob.mk rfl ?_; conv => whnf)
    | (refine Nx.mk ?_; conv => whnf)
    | (intro bk; conv => whnf)
    | (show CallK _ _ 189 _ _ _ _; refine CallK.rv (c_eofN m hm h) (by repeat' (first | exact trivial | exact .head _ | apply List.Mem.tail | apply And.intro)) (Nx.go ?_))
    | (show CallK _ _ _ _ _ _ _; refine CallK.rv c_etold1 (by repeat' (first | exact trivial | exact .head _ | apply List.Mem.tail | apply And.intro)) (Nx.go ?_))
    | (refine SemC.draw 2 [] [.t 0, .t 1, .s 2, .l 3, .t 4] (by kernel_rfl) (by kernel_rfl) ?_; conv => whnf)
    | (show RdB _ _ _; refine RdB.mk' (by repeat (first | exact .head _ | apply List.Mem.tail)) (Nx.go ?_))
    | (refine Ob.mk (by omega) ?_; conv => whnf)
  all_goals rfl

def encSl (x : Sli UInt64) : List SV := [x.sv]
theorem okSl (x : Sli UInt64) : okE encSl 1 x := ⟨rfl, rfl⟩
/-- each holds -/
def allSl (l : List (Sli UInt64)) : Fact := ⟨fun A w => ∀ y ∈ l, (y.f encU 1).F A w, fun _ _ _ _ t h y hy => (y.f encU 1).stb _ _ _ _ t (h y hy)⟩
theorem sl_at {l : List (Sli UInt64)} {i : Nat} {x : Sli UInt64} (h : l[i]? = some x) (A : Nat → Prop) (w : World) (hh : Hold [allSl l] A w) : Hold [x.f encU 1] A w := Hold.cons (hh _ (.head _) x (List.mem_of_getElem? h)) Hold.nil
def sumL (l : List (Sli UInt64)) : Nat := (l.map fun x => x.l.length).sum
theorem sumL_snoc {l : List (Sli UInt64)} {i : Nat} {x : Sli UInt64} (h : l[i]? = some x) : sumL (l.take (i + 1)) = sumL (l.take i) + x.l.length := by rw [take_snoc h]; simp [sumL]
theorem sumL_le (l : List (Sli UInt64)) (i : Nat) : sumL (l.take i) ≤ sumL l := by
  have h := congrArg sumL (List.take_append_drop i l)
  have e : ∀ a b : List (Sli UInt64), sumL (a ++ b) = sumL a + sumL b := fun a b => by simp [sumL]
  rw [e] at h
  omega
def catL (l : List (Sli UInt64)) : List UInt64 := l.flatMap Sli.l
theorem catL_snoc {l : List (Sli UInt64)} {i : Nat} {x : Sli UInt64} (h : l[i]? = some x) : catL (l.take (i + 1)) = catL (l.take i) ++ x.l := by rw [take_snoc h]; simp [catL]
theorem catL_len (l : List (Sli UInt64)) : (catL l).length = sumL l := by
  induction l with
  | nil => rfl
  | cons x l ih => simp [catL, sumL]
structure CatJ where
  i : Nat
  b : Nat
  p : Option Addr
  n : Nat
  c : Nat
  l : List UInt64
/-- an element that is a list is read -/
theorem RdE.sl {Φ : Facts} {x : Sli (Sli UInt64)} {e : Nat} {q : List SV → Prop} (hm : x.f encSl 1 ∈ Φ) (he : e < x.l.length) (hq : ∀ y, x.l[e]? = some y → q (encSl y)) : RdE Φ x.p x.l.length x.c 1 e q := RdE.mk' hm he hq
theorem Imp.slAt {P : Program} {lb : LBs} {Φ : Facts} {l : List (Sli UInt64)} {i : Nat} {x : Sli UInt64} (h : l[i]? = some x) (hm : allSl l ∈ Φ) : Imp P lb Φ lb (x.f encU 1 :: Φ) := Imp.fact fun _ _ hh => hh _ hm x (List.mem_of_getElem? h)

theorem c_growU (n : Nat) (hn : 1 ≤ n ∧ n ≤ 10000) : Ct Tryz.prog 190 [] [nilU.sv, .int .i64 n] [nilU.f encU 1] (Rs (fun y : CatJ => .vec 0 y.p 0 y.c) (fun y => [(y.b, .vec encU 1 50 y.p 0 y.c [])]) (fun _ => []) (fun y => n ≤ y.c)) := by
  refine Ct.post (Ct.of Tryz.func190 rfl (n := 27) rfl rfl rfl ?_)
  conv => whnf
  repeat' first
    | (show AR .i64 ((nilU.c : Int) - (nilU.l.length : Int)) _; refine AR.is (show IntKind.i64.wrap ((nilU.c : Int) - (nilU.l.length : Int)) = 0 from rfl) ?_; conv => whnf)
    | (show SlW _ nilU.p _ _ _ _ _ _ _; refine SlW.mk' (by repeat (first | exact .head _ | apply List.Mem.tail)) (by decide) (fun p9 => Nx.go ?_); conv => whnf)
    | (show SemO _ _ (.call ⟨.builtin .append, _, _⟩) _ _ _ _ _; refine SemO.appendZ ?_; (conv => whnf); refine ⟨rfl, ?_⟩; (conv => whnf); refine ⟨⟨UInt64, encU, 0, rfl, okU _, ?_, ?_, ?_, by show (0 : Nat) < 1; omega, fun bk2 cz hcz => ?_⟩⟩; rotate_left 3; conv => whnf)
    | (show SemO _ _ (.slice _ _ _ _ _) _ _ _ _ _; refine SemO.sliceVec ?_; conv => whnf)
    | (refine Ob.mk ⟨rfl, rfl, rfl, rfl, Nat.zero_le _⟩ ?_; conv => whnf)
    | (refine Ob.mk rfl ?_; conv => whnf)
    | (refine Nx.mk ?_; conv => whnf)
    | (refine BR.yes ?_; conv => whnf)
    | (refine BR.no ?_; conv => whnf)
    | (intro bk; conv => whnf)
    | (show Post _ _ _ _ _; exact Rs.post ⟨0, bk2, _, 0, _, []⟩ rfl (Imp.to 1 rfl (by repeat' (first | exact trivial | exact .head _ | apply List.Mem.tail | apply And.intro))) (by simpa using hcz))
    | (refine Idx.nat ?_; conv => whnf)
    | (refine Idx.is _ rfl ?_; conv => whnf)
    | (show SlW _ _ _ _ _ _ _ _ _; refine SlW.s (by repeat (first | exact .head _ | apply List.Mem.tail)) (by omega) (fun ys hys hcs => Nx.go ?_))
    | (refine AR.i64 (by omega) ?_; conv => whnf)
    | (refine AR.u64 (by omega) ?_; conv => whnf)
    | (refine AR.u8 (by omega) ?_; conv => whnf)
    | (refine Ob.mk (by omega) ?_; conv => whnf)
    | (refine BR.mk (fun h => ?_) (fun h => ?_) <;> (first | rw [Bool.not_eq_true'] at h | rw [Bool.not_eq_false'] at h | skip) <;> (try rw [h]) <;> (first | replace h := of_decide_eq_true h | replace h := of_decide_eq_false h | replace h := eq_of_beq h | replace h := bne_iff_ne.1 h | replace h := beq_eq_false_iff_ne.1 h | replace h := bne_eq_false_iff_eq.1 h | skip) <;> conv => whnf)
  · omega
  · exact Nat.le_trans (Nat.mul_le_mul_right _ (show ((n : Int) - 0).toNat ≤ 10000 by omega)) (of_decide_eq_true (by kernel_rfl))
  · omega
  · exact absurd h (by omega)

theorem c_grow0  : Ct Tryz.prog 190 [] [nilU.sv, .int .i64 0] [] (Rv nilU.sv) := by
  refine Ct.of Tryz.func190 rfl (n := 27) rfl rfl rfl ?_
  conv => whnf
  repeat' first
    | (show AR .i64 ((nilU.c : Int) - (nilU.l.length : Int)) _; refine AR.is (show IntKind.i64.wrap ((nilU.c : Int) - (nilU.l.length : Int)) = 0 from rfl) ?_; conv => whnf)
    | (show BR (decide ((0 : Int) - 0 > 0)) _ _; refine BR.noK rfl ?_; conv => whnf)
    | (refine Ob.mk rfl ?_; conv => whnf)
    | (refine Nx.mk ?_; conv => whnf)
    | (refine BR.yes ?_; conv => whnf)
    | (refine BR.no ?_; conv => whnf)
    | (intro bk; conv => whnf)
    | (refine Idx.nat ?_; conv => whnf)
    | (refine Idx.is _ rfl ?_; conv => whnf)
    | (show SlW _ _ _ _ _ _ _ _ _; refine SlW.s (by repeat (first | exact .head _ | apply List.Mem.tail)) (by omega) (fun ys hys hcs => Nx.go ?_))
    | (refine AR.i64 (by omega) ?_; conv => whnf)
    | (refine AR.u64 (by omega) ?_; conv => whnf)
    | (refine AR.u8 (by omega) ?_; conv => whnf)
    | (refine Ob.mk (by omega) ?_; conv => whnf)
    | (refine BR.mk (fun h => ?_) (fun h => ?_) <;> (first | rw [Bool.not_eq_true'] at h | rw [Bool.not_eq_false'] at h | skip) <;> (try rw [h]) <;> (first | replace h := of_decide_eq_true h | replace h := of_decide_eq_false h | replace h := eq_of_beq h | replace h := bne_iff_ne.1 h | replace h := beq_eq_false_iff_ne.1 h | replace h := bne_eq_false_iff_eq.1 h | skip) <;> conv => whnf)
  all_goals rfl

theorem nil_ok (A : Nat → Prop) (w : World) (hh : Hold [] A w) : Hold [nilU.f encU 1] A w := Hold.cons ⟨by simp, rfl, ⟨by simp [flat], Nat.le_refl _, Nat.zero_le _, fun _ => rfl, .inl rfl⟩⟩ hh
theorem c_growN (n : Int) {z : Sli (Sli UInt64)} (hn : n = (sumL z.l : Int)) (h1 : 1 ≤ sumL z.l) (h2 : sumL z.l ≤ 10000) : Ct Tryz.prog 190 [] [.raw (.slice none 0 0), .int .i64 n] [] (Rs (fun y : CatJ => .vec 0 y.p 0 y.c) (fun y => [(y.b, .vec encU 1 50 y.p 0 y.c [])]) (fun _ => []) (fun _ => True)) := by
  subst hn
  refine ct_imp (ct_facts (c_growU _ ⟨h1, h2⟩) nil_ok) ?_
  rintro v lb Φ ⟨y, rfl, rfl, rfl, _⟩
  exact ⟨y, rfl, rfl, rfl, trivial⟩
theorem c_growZ (n : Int) {z : Sli (Sli UInt64)} (hn : n = (sumL z.l : Int)) (h1 : sumL z.l = 0) : Ct Tryz.prog 190 [] [.raw (.slice none 0 0), .int .i64 n] [] (Rv (.raw (.slice none 0 0))) := by
  subst hn
  rw [h1]
  exact c_grow0

theorem c_catP (z : Sli (Sli UInt64)) (h1 : 1 ≤ sumL z.l) (h2 : sumL z.l ≤ 10000) : Ct Tryz.prog 183 [] [z.sv] [z.f encSl 1, allSl z.l] (Rs (fun y : Sli UInt64 => y.sv) (fun _ => []) (fun y => [y.f encU 1]) (fun y => y.l = catL z.l)) := by
  refine Ct.len (enc := encSl) (L := z.l) (List.Mem.head _) fun hl => ?_
  refine Ct.post (Ct.of Tryz.func183 rfl (n := 36) rfl rfl rfl ?_)
  conv => whnf
  repeat' first
    | (have e1 := sumL_snoc hxe; have e2 := sumL_le z.l (i + 1); show AR .i64 ((sumL (z.l.take i) : Int) + _) _; refine AR.i64 (by omega) ?_; conv => whnf)
    | (show BR (decide ((sumL (z.l.take i) : Int) + _ < 0)) _ _; refine BR.noK (decide_eq_false (by omega)) ?_; conv => whnf)
    | (show RdE _ z.p _ _ _ _ _; refine RdE.sl (by repeat (first | exact .head _ | apply List.Mem.tail)) (by omega) (fun xe hxe => Nx.go ?_))
    | (have e1 := sumL_snoc hxe; show Exists _; refine Exists.intro (i + 1) ⟨?_, ?_, rfl, ⟨(by repeat (first | exact trivial | refine ⟨rfl, ?_⟩ | refine ⟨congrArg (Value.int _) (by omega), ?_⟩)), Imp.refl⟩⟩)
    | (show SemO _ _ (.call ⟨.builtin .append, _, _⟩) _ _ _ _ _; refine SemO.imp (Imp.slAt hxe (by repeat (first | exact .head _ | apply List.Mem.tail))) ?_; refine SemO.appendVec ?_; (conv => whnf); refine Ob.mk ⟨rfl, rfl, rfl, rfl, rfl⟩ ?_)
    | (show AppV _ _ _ _ _ _ _ _ _ _ _ _ _ _; refine ⟨rfl, _, .fact (by repeat (first | exact .head _ | apply List.Mem.tail)), app_le (N := 1048576) ?_ (of_decide_eq_true (by kernel_rfl)), ?_, fun bv pv cv hcv => Nx.go ?_⟩)
    | (refine Ob.mk rfl ?_; conv => whnf)
    | (refine Nx.mk ?_; conv => whnf)
    | (refine BR.yes ?_; conv => whnf)
    | (refine BR.no ?_; conv => whnf)
    | (intro bk; conv => whnf)
    | (show CallK _ _ 190 _ _ _ _; refine CallK.rs (c_growN _ (z := z) ?_ h1 h2) (by repeat' (first | exact trivial | exact .head _ | apply List.Mem.tail | apply And.intro)) (fun y hy => ⟨rfl, Nx.go ?_⟩))
    | (show SemC _ _ _ (.loop (.seq (.region 3 _ _) _)) _ _ _ _ _; refine SemC.loopB (c := (.seq (.region 3 _ _) _)) (fun i : Nat => [(11, .int .i64 i), (3, .int .i64 (sumL (z.l.take i)))]) (fun i => []) (fun i => i ≤ z.l.length) (fun i => z.l.length - i) 0 ?_; (conv => whnf); refine LoopQ.mk ?_ ⟨(by repeat (first | exact trivial | refine ⟨rfl, ?_⟩ | refine ⟨congrArg (Value.int _) (by omega), ?_⟩)), Imp.refl⟩ (fun i hi => ?_))
    | (show SemC _ _ _ (.loop (.seq (.region 11 _ _) _)) _ _ _ _ _; refine SemC.loopB (c := (.seq (.region 11 _ _) _)) (fun j : CatJ => [(27, .int .i64 j.i), (6, .vec 0 j.p j.n j.c)]) (fun j => [(j.b, .vec encU 1 50 j.p j.n j.c j.l)]) (fun j => j.i ≤ z.l.length ∧ j.n = j.l.length ∧ j.l = catL (z.l.take j.i)) (fun j => z.l.length - j.i) ⟨0, y.b, y.p, 0, y.c, []⟩ ?_; (conv => whnf); refine LoopQ.mk ?_ ⟨(by repeat (first | exact trivial | refine ⟨rfl, ?_⟩ | refine ⟨congrArg (Value.int _) (by omega), ?_⟩)), Imp.to 1 rfl (by repeat' (first | exact trivial | exact .head _ | apply List.Mem.tail | apply And.intro))⟩ (fun j hi => ?_))
    | (show Exists _; refine Exists.intro (⟨j.i + 1, bv, pv, j.n + xe.l.length, cv, j.l ++ xe.l⟩) ⟨?_, ?_, rfl, ⟨(by repeat (first | exact trivial | refine ⟨rfl, ?_⟩ | refine ⟨congrArg (Value.int _) (by omega), ?_⟩)), Imp.to 1 rfl (by repeat' (first | exact trivial | exact .head _ | apply List.Mem.tail | apply And.intro))⟩⟩)
    | (show Post _ _ _ _ _; exact Rs.post ⟨j.l, j.p, j.c⟩ (by rw [hi.2.1]; rfl) ((Imp.pubS 0 rfl hi.2.1.symm).trans (Imp.fs (by repeat' (first | exact trivial | exact .head _ | apply List.Mem.tail | apply And.intro)))) (by rw [hi.2.2, take_all (by omega)]))
    | (refine Idx.nat ?_; conv => whnf)
    | (refine Idx.is _ rfl ?_; conv => whnf)
    | (show HasP _ _ _ _ _ _; refine HasP.mk' (by repeat (first | exact .head _ | apply List.Mem.tail)) (Nx.go ?_))
    | (show RdE _ _ _ _ _ _ _; refine RdE.s (by repeat (first | exact .head _ | apply List.Mem.tail)) (by omega) (fun xe hxe => Nx.go ?_))
    | (show RdB _ _ _; refine RdB.mk' (by repeat (first | exact .head _ | apply List.Mem.tail)) (Nx.go ?_))
    | (refine AR.i64 (by omega) ?_; conv => whnf)
    | (refine AR.u64 (by omega) ?_; conv => whnf)
    | (refine AR.u8 (by omega) ?_; conv => whnf)
    | (refine Ob.mk (by omega) ?_; conv => whnf)
    | (refine BR.mk (fun h => ?_) (fun h => ?_) <;> (first | rw [Bool.not_eq_true'] at h | rw [Bool.not_eq_false'] at h | skip) <;> (try rw [h]) <;> (first | replace h := of_decide_eq_true h | replace h := of_decide_eq_false h | replace h := eq_of_beq h | replace h := bne_iff_ne.1 h | replace h := beq_eq_false_iff_ne.1 h | replace h := bne_eq_false_iff_eq.1 h | skip) <;> conv => whnf)
  · exact Nat.zero_le _
  · omega
  · omega
  · rw [take_all (by omega)]
  · exact ⟨Nat.zero_le _, rfl, rfl⟩
  all_goals (have e3 := sumL_snoc hxe; have e4 := sumL_le z.l (j.i + 1); have e5 := catL_len (z.l.take j.i); rw [← hi.2.2] at e5; have e6 := hi.2.1)
  · omega
  · omega
  · exact ⟨by show j.i + 1 ≤ _; omega, by show j.n + _ = (j.l ++ _).length; rw [List.length_append, hi.2.1], by show j.l ++ _ = _; rw [catL_snoc hxe, hi.2.2]⟩
  · show z.l.length - (j.i + 1) < _; omega

theorem c_cat0 (z : Sli (Sli UInt64)) (h1 : sumL z.l = 0) (h2 : sumL z.l ≤ 10000) : Ct Tryz.prog 183 [] [z.sv] [z.f encSl 1, allSl z.l] (Rs (fun y : Sli UInt64 => y.sv) (fun _ => []) (fun y => [y.f encU 1]) (fun y => y.l = catL z.l)) := by
  refine Ct.len (enc := encSl) (L := z.l) (List.Mem.head _) fun hl => ?_
  refine Ct.post (Ct.of Tryz.func183 rfl (n := 36) rfl rfl rfl ?_)
  conv => whnf
  repeat' first
    | (have e1 := sumL_snoc hxe; have e2 := sumL_le z.l (i + 1); show AR .i64 ((sumL (z.l.take i) : Int) + _) _; refine AR.i64 (by omega) ?_; conv => whnf)
    | (show BR (decide ((sumL (z.l.take i) : Int) + _ < 0)) _ _; refine BR.noK (decide_eq_false (by omega)) ?_; conv => whnf)
    | (show RdE _ z.p _ _ _ _ _; refine RdE.sl (by repeat (first | exact .head _ | apply List.Mem.tail)) (by omega) (fun xe hxe => Nx.go ?_))
    | (have e1 := sumL_snoc hxe; show Exists _; refine Exists.intro (i + 1) ⟨?_, ?_, rfl, ⟨(by repeat (first | exact trivial | refine ⟨rfl, ?_⟩ | refine ⟨congrArg (Value.int _) (by omega), ?_⟩)), Imp.refl⟩⟩)
    | (show SemO _ _ (.call ⟨.builtin .append, _, _⟩) _ _ _ _ _; refine SemO.imp (Imp.slAt hxe (by repeat (first | exact .head _ | apply List.Mem.tail))) ?_; refine SemO.appendVec ?_; (conv => whnf); refine Ob.mk ⟨rfl, rfl, rfl, rfl, rfl⟩ ?_)
    | (show AppV _ _ _ _ _ _ _ _ _ _ _ _ _ _; refine ⟨rfl, _, .fact (by repeat (first | exact .head _ | apply List.Mem.tail)), app_le (N := 1048576) ?_ (of_decide_eq_true (by kernel_rfl)), ?_, fun bv pv cv hcv => Nx.go ?_⟩)
    | (refine Ob.mk rfl ?_; conv => whnf)
    | (refine Nx.mk ?_; conv => whnf)
    | (refine BR.yes ?_; conv => whnf)
    | (refine BR.no ?_; conv => whnf)
    | (intro bk; conv => whnf)
    | (show CallK _ _ 190 _ _ _ _; refine CallK.rv (c_growZ _ (z := z) ?_ h1) (by repeat' (first | exact trivial | exact .head _ | apply List.Mem.tail | apply And.intro)) (Nx.go ?_))
    | (show SemC _ _ _ (.loop (.seq (.region 3 _ _) _)) _ _ _ _ _; refine SemC.loopB (c := (.seq (.region 3 _ _) _)) (fun i : Nat => [(11, .int .i64 i), (3, .int .i64 (sumL (z.l.take i)))]) (fun i => []) (fun i => i ≤ z.l.length) (fun i => z.l.length - i) 0 ?_; (conv => whnf); refine LoopQ.mk ?_ ⟨(by repeat (first | exact trivial | refine ⟨rfl, ?_⟩ | refine ⟨congrArg (Value.int _) (by omega), ?_⟩)), Imp.refl⟩ (fun i hi => ?_))
    | (show SemC _ _ _ (.loop (.seq (.region 11 _ _) _)) _ _ _ _ _; refine SemC.loopB (c := (.seq (.region 11 _ _) _)) (fun j : CatJ => [(27, .int .i64 j.i), (6, .vec 0 j.p j.n j.c)]) (fun j => [(j.b, .vec encU 1 50 j.p j.n j.c j.l)]) (fun j => j.i ≤ z.l.length ∧ j.n = j.l.length ∧ j.l = catL (z.l.take j.i)) (fun j => z.l.length - j.i) ⟨0, 0, none, 0, 0, []⟩ ?_; (conv => whnf); refine LoopQ.mk ?_ ⟨(by repeat (first | exact trivial | refine ⟨rfl, ?_⟩ | refine ⟨congrArg (Value.int _) (by omega), ?_⟩)), (Imp.nilVec encU 1 50)⟩ (fun j hi => ?_))
    | (show Exists _; refine Exists.intro (⟨j.i + 1, bv, pv, j.n + xe.l.length, cv, j.l ++ xe.l⟩) ⟨?_, ?_, rfl, ⟨(by repeat (first | exact trivial | refine ⟨rfl, ?_⟩ | refine ⟨congrArg (Value.int _) (by omega), ?_⟩)), Imp.to 1 rfl (by repeat' (first | exact trivial | exact .head _ | apply List.Mem.tail | apply And.intro))⟩⟩)
    | (show Post _ _ _ _ _; exact Rs.post ⟨j.l, j.p, j.c⟩ (by rw [hi.2.1]; rfl) ((Imp.pubS 0 rfl hi.2.1.symm).trans (Imp.fs (by repeat' (first | exact trivial | exact .head _ | apply List.Mem.tail | apply And.intro)))) (by rw [hi.2.2, take_all (by omega)]))
    | (refine Idx.nat ?_; conv => whnf)
    | (refine Idx.is _ rfl ?_; conv => whnf)
    | (show HasP _ _ _ _ _ _; refine HasP.mk' (by repeat (first | exact .head _ | apply List.Mem.tail)) (Nx.go ?_))
    | (show RdE _ _ _ _ _ _ _; refine RdE.s (by repeat (first | exact .head _ | apply List.Mem.tail)) (by omega) (fun xe hxe => Nx.go ?_))
    | (show RdB _ _ _; refine RdB.mk' (by repeat (first | exact .head _ | apply List.Mem.tail)) (Nx.go ?_))
    | (refine AR.i64 (by omega) ?_; conv => whnf)
    | (refine AR.u64 (by omega) ?_; conv => whnf)
    | (refine AR.u8 (by omega) ?_; conv => whnf)
    | (refine Ob.mk (by omega) ?_; conv => whnf)
    | (refine BR.mk (fun h => ?_) (fun h => ?_) <;> (first | rw [Bool.not_eq_true'] at h | rw [Bool.not_eq_false'] at h | skip) <;> (try rw [h]) <;> (first | replace h := of_decide_eq_true h | replace h := of_decide_eq_false h | replace h := eq_of_beq h | replace h := bne_iff_ne.1 h | replace h := beq_eq_false_iff_ne.1 h | replace h := bne_eq_false_iff_eq.1 h | skip) <;> conv => whnf)
  · exact Nat.zero_le _
  · omega
  · omega
  · rw [take_all (by omega)]
  · exact ⟨Nat.zero_le _, rfl, rfl⟩
  all_goals (have e3 := sumL_snoc hxe; have e4 := sumL_le z.l (j.i + 1); have e5 := catL_len (z.l.take j.i); rw [← hi.2.2] at e5; have e6 := hi.2.1)
  · omega
  · omega
  · exact ⟨by show j.i + 1 ≤ _; omega, by show j.n + _ = (j.l ++ _).length; rw [List.length_append, hi.2.1], by show j.l ++ _ = _; rw [catL_snoc hxe, hi.2.2]⟩
  · show z.l.length - (j.i + 1) < _; omega
end Go.Proofs.YtikjigkkhdkibaaGreatDoor

/- ladder: M8 -/
namespace Go.Proofs.YtikjigkkhdkibaaGreatDoor
open Go.Proofs.YtikjigkkhdkibaaGreatDoor.W
set_option maxRecDepth 100000
set_option linter.unusedVariables false
theorem c_erT (x : Sli UInt64) (h : exactRight x.l = true) : Ct Tryz.prog 107 [] [.agg [x.sv]] [x.f encU 1] (Rv (.bool true)) := h ▸ c_exactRight x
theorem exR_len {l : List UInt64} (h : exactRight l = true) : l.length ≤ 64 ∧ risesU l = true := by
  simp only [exactRight, Bool.and_eq_true, decide_eq_true_eq] at h; exact h
theorem c_cat2 (z : Sli (Sli UInt64)) (x y : Sli UInt64) (hz : z.l = [x, y]) (h2 : x.l.length + y.l.length ≤ 10000) : Ct Tryz.prog 183 [] [z.sv] [z.f encSl 1, x.f encU 1, y.f encU 1] (Rs (fun y : Sli UInt64 => y.sv) (fun _ => []) (fun y => [y.f encU 1]) (fun m => m.l = x.l ++ y.l)) := by
  have hs : sumL z.l = x.l.length + y.l.length := by rw [hz]; simp [sumL]
  have hc : catL z.l = x.l ++ y.l := by rw [hz]; simp [catL]
  have hf : ∀ A w, Hold [z.f encSl 1, x.f encU 1, y.f encU 1] A w → Hold [z.f encSl 1, allSl z.l] A w := fun A w hh => by
    refine Hold.cons (hh _ (.head _)) (Hold.cons ?_ Hold.nil)
    intro m hm
    rw [hz] at hm
    rcases List.mem_cons.1 hm with rfl | hm
    · exact hh _ (.tail _ (.head _))
    · rcases List.mem_cons.1 hm with rfl | hm
      · exact hh _ (.tail _ (.tail _ (.head _)))
      · cases hm
  rw [← hc]
  by_cases h0 : sumL z.l = 0
  · exact ct_facts (c_cat0 z h0 (by omega)) hf
  · exact ct_facts (c_catP z (by omega) (by omega)) hf
theorem ofE_two {x y m : List UInt64} (hm : m = x ++ y) (hx : exactRight x = true) : ofE [] m = ofE x y := by rw [hm, ofE_app x y (exR_len hx).2]

theorem c_emT (x y : Sli UInt64) (hx : exactRight x.l = true) (hy : exactRight y.l = true) (h : (ofE x.l y.l).length ≤ 64) : Ct Tryz.prog 178 [] [.agg [x.sv], .agg [y.sv]] [x.f encU 1, y.f encU 1] (Rs (fun z : Sli UInt64 => .tup [.agg [z.sv], .int .i64 0]) (fun _ => []) (fun z => [z.f encU 1]) (fun z => z.l = ofE x.l y.l)) := by
  refine Ct.post (Ct.of Tryz.func178 rfl (n := 27) rfl rfl rfl ?_)
  conv => whnf
  repeat' first
    | (show SemO _ _ (.buildSlice _ _ #[(0, .tmp 19), (1, .tmp 21)]) _ _ _ _ _; refine SemO.lit ?_; (conv => whnf); show BsV _ _ _ _ _; refine BsV.s [x, y] (by repeat (first | exact .nil | refine .cons (by first | rfl | exact encB_of (by omega) | exact encU_U (by omega)) ?_)) (fun xo _ => okSl xo) (fun ys hys => Nx.go ?_))
    | (refine Ob.mk rfl ?_; conv => whnf)
    | (refine Nx.mk ?_; conv => whnf)
    | (refine BR.yes ?_; conv => whnf)
    | (refine BR.no ?_; conv => whnf)
    | (intro bk; conv => whnf)
    | (show CallK _ _ 107 _ _ _ _; refine CallK.rv (c_erT x hx) (by repeat' (first | exact trivial | exact .head _ | apply List.Mem.tail | apply And.intro)) (Nx.go ?_))
    | (show CallK _ _ 107 _ _ _ _; refine CallK.rv (c_erT y hy) (by repeat' (first | exact trivial | exact .head _ | apply List.Mem.tail | apply And.intro)) (Nx.go ?_))
    | (show CallK _ _ 183 _ _ _ _; refine CallK.rf (c_cat2 ys x y hys (by have := (exR_len hx).1; have := (exR_len hy).1; omega)) (by repeat' (first | exact trivial | exact .head _ | apply List.Mem.tail | apply And.intro)) (fun m hm => Nx.go ?_))
    | (show CallK _ _ 182 _ _ _ _; refine CallK.rf (c_eOfT m (by have := (exR_len hx).1; have := (exR_len hy).1; rw [hm, List.length_append]; omega) (by rw [ofE_two hm hx]; exact h)) (by repeat' (first | exact trivial | exact .head _ | apply List.Mem.tail | apply And.intro)) (fun z hz => Nx.go ?_))
    | (show Post _ _ _ _ _; exact Rs.post z rfl (Imp.fs (by repeat' (first | exact trivial | exact .head _ | apply List.Mem.tail | apply And.intro))) (hz.trans (ofE_two hm hx)))
    | (show RdB _ _ _; refine RdB.mk' (by repeat (first | exact .head _ | apply List.Mem.tail)) (Nx.go ?_))
    | (refine AR.i64 (by omega) ?_; conv => whnf)
    | (refine AR.u64 (by omega) ?_; conv => whnf)
    | (refine AR.u8 (by omega) ?_; conv => whnf)
    | (refine Ob.mk (by omega) ?_; conv => whnf)
    | (refine BR.mk (fun h => ?_) (fun h => ?_) <;> (first | rw [Bool.not_eq_true'] at h | rw [Bool.not_eq_false'] at h | skip) <;> (try rw [h]) <;> (first | replace h := of_decide_eq_true h | replace h := of_decide_eq_false h | replace h := eq_of_beq h | replace h := bne_iff_ne.1 h | replace h := beq_eq_false_iff_ne.1 h | replace h := bne_eq_false_iff_eq.1 h | skip) <;> conv => whnf)

theorem c_emB (x y : Sli UInt64) (hx : exactRight x.l = true) (hy : exactRight y.l = true) (h : 64 < (ofE x.l y.l).length) : Ct Tryz.prog 178 [] [.agg [x.sv], .agg [y.sv]] [x.f encU 1, y.f encU 1] (Rv (.tup [.agg [nilU.sv], .int .i64 60])) := by
  refine Ct.of Tryz.func178 rfl (n := 27) rfl rfl rfl ?_
  conv => whnf
  repeat' first
    | (show SemO _ _ (.buildSlice _ _ #[(0, .tmp 19), (1, .tmp 21)]) _ _ _ _ _; refine SemO.lit ?_; (conv => whnf); show BsV _ _ _ _ _; refine BsV.s [x, y] (by repeat (first | exact .nil | refine .cons (by first | rfl | exact encB_of (by omega) | exact encU_U (by omega)) ?_)) (fun xo _ => okSl xo) (fun ys hys => Nx.go ?_))
    | (refine Ob.mk rfl ?_; conv => whnf)
    | (refine Nx.mk ?_; conv => whnf)
    | (refine BR.yes ?_; conv => whnf)
    | (refine BR.no ?_; conv => whnf)
    | (intro bk; conv => whnf)
    | (show CallK _ _ 107 _ _ _ _; refine CallK.rv (c_erT x hx) (by repeat' (first | exact trivial | exact .head _ | apply List.Mem.tail | apply And.intro)) (Nx.go ?_))
    | (show CallK _ _ 107 _ _ _ _; refine CallK.rv (c_erT y hy) (by repeat' (first | exact trivial | exact .head _ | apply List.Mem.tail | apply And.intro)) (Nx.go ?_))
    | (show CallK _ _ 183 _ _ _ _; refine CallK.rf (c_cat2 ys x y hys (by have := (exR_len hx).1; have := (exR_len hy).1; omega)) (by repeat' (first | exact trivial | exact .head _ | apply List.Mem.tail | apply And.intro)) (fun m hm => Nx.go ?_))
    | (show CallK _ _ 182 _ _ _ _; refine CallK.rv (c_eOfN m (by have := (exR_len hx).1; have := (exR_len hy).1; rw [hm, List.length_append]; omega) (by rw [ofE_two hm hx]; exact h)) (by repeat' (first | exact trivial | exact .head _ | apply List.Mem.tail | apply And.intro)) (Nx.go ?_))
    | (show RdB _ _ _; refine RdB.mk' (by repeat (first | exact .head _ | apply List.Mem.tail)) (Nx.go ?_))
    | (refine AR.i64 (by omega) ?_; conv => whnf)
    | (refine AR.u64 (by omega) ?_; conv => whnf)
    | (refine AR.u8 (by omega) ?_; conv => whnf)
    | (refine Ob.mk (by omega) ?_; conv => whnf)
    | (refine BR.mk (fun h => ?_) (fun h => ?_) <;> (first | rw [Bool.not_eq_true'] at h | rw [Bool.not_eq_false'] at h | skip) <;> (try rw [h]) <;> (first | replace h := of_decide_eq_true h | replace h := of_decide_eq_false h | replace h := eq_of_beq h | replace h := bne_iff_ne.1 h | replace h := beq_eq_false_iff_ne.1 h | replace h := bne_eq_false_iff_eq.1 h | skip) <;> conv => whnf)
  all_goals rfl

theorem one_right (n : UInt64) : exactRight [n] = true := rfl
theorem ofE_one (l : List UInt64) (n : UInt64) : ofE l [n] = insU n l := rfl
theorem c_emT1 (x y : Sli UInt64) {n : UInt64} (hy : y.l = [n]) (hx : exactRight x.l = true) (h : (insU n x.l).length ≤ 64) : Ct Tryz.prog 178 [] [.agg [x.sv], .agg [y.sv]] [x.f encU 1, y.f encU 1] (Rs (fun z : Sli UInt64 => .tup [.agg [z.sv], .int .i64 0]) (fun _ => []) (fun z => [z.f encU 1]) (fun z => z.l = insU n x.l)) := by
  have h1 := c_emT x y hx (by rw [hy]; rfl) (by rw [hy]; exact h)
  rw [hy] at h1; exact h1
theorem c_emB1 (x y : Sli UInt64) {n : UInt64} (hy : y.l = [n]) (hx : exactRight x.l = true) (h : 64 < (insU n x.l).length) : Ct Tryz.prog 178 [] [.agg [x.sv], .agg [y.sv]] [x.f encU 1, y.f encU 1] (Rv (.tup [.agg [nilU.sv], .int .i64 60])) :=
  c_emB x y hx (by rw [hy]; rfl) (by rw [hy]; exact h)

theorem c_eaT (x : Sli UInt64) (n : UInt64) (hx : exactRight x.l = true) (h : (insU n x.l).length ≤ 64) : Ct Tryz.prog 174 [] [.agg [x.sv], .int .u64 n.toNat] [x.f encU 1] (Rs (fun z : Sli UInt64 => .tup [.agg [z.sv], .int .i64 0]) (fun _ => []) (fun z => [z.f encU 1]) (fun z => z.l = insU n x.l)) := by
  refine Ct.post (Ct.of Tryz.func174 rfl (n := 13) rfl rfl rfl ?_)
  conv => whnf
  repeat' first
    | (show SemO _ _ (.buildSlice _ _ #[(0, .tmp 7)]) _ _ _ _ _; refine SemO.lit ?_; (conv => whnf); show BsV _ _ _ _ _; refine BsV.s [n] (by repeat (first | exact .nil | refine .cons (by first | rfl | exact encB_of (by omega) | exact encU_U (by omega)) ?_)) (fun xo _ => okU xo) (fun ys hys => Nx.go ?_))
    | (refine Ob.mk rfl ?_; conv => whnf)
    | (refine Nx.mk ?_; conv => whnf)
    | (intro bk; conv => whnf)
    | (show CallK _ _ 178 _ _ _ _; refine CallK.rf (c_emT1 x ys hys hx h) (by repeat' (first | exact trivial | exact .head _ | apply List.Mem.tail | apply And.intro)) (fun z hz => Nx.go ?_))
    | (show Post _ _ _ _ _; exact Rs.post z rfl (Imp.fs (by repeat' (first | exact trivial | exact .head _ | apply List.Mem.tail | apply And.intro))) hz)
    | (show RdB _ _ _; refine RdB.mk' (by repeat (first | exact .head _ | apply List.Mem.tail)) (Nx.go ?_))
    | (refine Ob.mk (by omega) ?_; conv => whnf)

theorem c_eaB (x : Sli UInt64) (n : UInt64) (hx : exactRight x.l = true) (h : 64 < (insU n x.l).length) : Ct Tryz.prog 174 [] [.agg [x.sv], .int .u64 n.toNat] [x.f encU 1] (Rv (.tup [.agg [nilU.sv], .int .i64 60])) := by
  refine Ct.of Tryz.func174 rfl (n := 13) rfl rfl rfl ?_
  conv => whnf
  repeat' first
    | (show SemO _ _ (.buildSlice _ _ #[(0, .tmp 7)]) _ _ _ _ _; refine SemO.lit ?_; (conv => whnf); show BsV _ _ _ _ _; refine BsV.s [n] (by repeat (first | exact .nil | refine .cons (by first | rfl | exact encB_of (by omega) | exact encU_U (by omega)) ?_)) (fun xo _ => okU xo) (fun ys hys => Nx.go ?_))
    | (refine Ob.mk rfl ?_; conv => whnf)
    | (refine Nx.mk ?_; conv => whnf)
    | (intro bk; conv => whnf)
    | (show CallK _ _ 178 _ _ _ _; refine CallK.rv (c_emB1 x ys hys hx h) (by repeat' (first | exact trivial | exact .head _ | apply List.Mem.tail | apply And.intro)) (Nx.go ?_))
    | (show RdB _ _ _; refine RdB.mk' (by repeat (first | exact .head _ | apply List.Mem.tail)) (Nx.go ?_))
    | (refine Ob.mk (by omega) ?_; conv => whnf)
  all_goals rfl

theorem c_ecnt (x : Sli UInt64) (hx : exactRight x.l = true) : Ct Tryz.prog 175 [] [.agg [x.sv]] [x.f encU 1] (Rv (.int .u64 x.l.length)) := by
  have hl := (exR_len hx).1
  refine Ct.of Tryz.func175 rfl (n := 10) rfl rfl rfl ?_
  conv => whnf
  repeat' first
    | (refine Ob.mk rfl ?_; conv => whnf)
    | (refine Nx.mk ?_; conv => whnf)
    | (refine BR.yes ?_; conv => whnf)
    | (refine BR.no ?_; conv => whnf)
    | (intro bk; conv => whnf)
    | (show CallK _ _ 107 _ _ _ _; refine CallK.rv (c_erT x hx) (by repeat' (first | exact trivial | exact .head _ | apply List.Mem.tail | apply And.intro)) (Nx.go ?_))
    | (show RdB _ _ _; refine RdB.mk' (by repeat (first | exact .head _ | apply List.Mem.tail)) (Nx.go ?_))
    | (refine AR.i64 (by omega) ?_; conv => whnf)
    | (refine AR.u64 (by omega) ?_; conv => whnf)
    | (refine AR.u8 (by omega) ?_; conv => whnf)
    | (refine Ob.mk (by omega) ?_; conv => whnf)
    | (refine BR.mk (fun h => ?_) (fun h => ?_) <;> (first | rw [Bool.not_eq_true'] at h | rw [Bool.not_eq_false'] at h | skip) <;> (try rw [h]) <;> (first | replace h := of_decide_eq_true h | replace h := of_decide_eq_false h | replace h := eq_of_beq h | replace h := bne_iff_ne.1 h | replace h := beq_eq_false_iff_ne.1 h | replace h := bne_eq_false_iff_eq.1 h | skip) <;> conv => whnf)
  all_goals rfl
end Go.Proofs.YtikjigkkhdkibaaGreatDoor

/- ladder: M9 -/
namespace Go.Proofs.YtikjigkkhdkibaaGreatDoor
open Go.Proofs.YtikjigkkhdkibaaGreatDoor.W
set_option maxRecDepth 100000
set_option linter.unusedVariables false
theorem c_htold0  : Ct Tryz.prog 184 [] [.raw .nilIface] [] (Rv (.int .i64 0)) := by
  refine Ct.of Tryz.func184 rfl (n := 11) rfl rfl rfl ?_
  conv => whnf
  repeat' first
    | (refine Ob.mk rfl ?_; conv => whnf)
    | (refine Nx.mk ?_; conv => whnf)
    | (refine BR.yes ?_; conv => whnf)
    | (refine BR.no ?_; conv => whnf)
    | (intro bk; conv => whnf)
    | (refine Ob.mk (by omega) ?_; conv => whnf)
    | (refine BR.mk (fun h => ?_) (fun h => ?_) <;> (first | rw [Bool.not_eq_true'] at h | rw [Bool.not_eq_false'] at h | skip) <;> (try rw [h]) <;> (first | replace h := of_decide_eq_true h | replace h := of_decide_eq_false h | replace h := eq_of_beq h | replace h := bne_iff_ne.1 h | replace h := beq_eq_false_iff_ne.1 h | replace h := bne_eq_false_iff_eq.1 h | skip) <;> conv => whnf)
  all_goals rfl

theorem c_htold1  : Ct Tryz.prog 184 [] [.iface 260 (.agg [])] [] (Rv (.int .i64 70)) := by
  refine Ct.of Tryz.func184 rfl (n := 11) rfl rfl rfl ?_
  conv => whnf
  repeat' first
    | (refine Ob.mk rfl ?_; conv => whnf)
    | (refine Nx.mk ?_; conv => whnf)
    | (refine BR.yes ?_; conv => whnf)
    | (refine BR.no ?_; conv => whnf)
    | (intro bk; conv => whnf)
    | (refine Ob.mk (by omega) ?_; conv => whnf)
    | (refine BR.mk (fun h => ?_) (fun h => ?_) <;> (first | rw [Bool.not_eq_true'] at h | rw [Bool.not_eq_false'] at h | skip) <;> (try rw [h]) <;> (first | replace h := of_decide_eq_true h | replace h := of_decide_eq_false h | replace h := eq_of_beq h | replace h := bne_iff_ne.1 h | replace h := beq_eq_false_iff_ne.1 h | replace h := bne_eq_false_iff_eq.1 h | skip) <;> conv => whnf)
  all_goals rfl

theorem placeR_lt {b : Nat} (n : UInt64) (hb : b ≤ 64) : placeR b n < 2 ^ b := by
  unfold placeR
  rw [Nat.div_lt_iff_lt_mul (Nat.two_pow_pos _), ← Nat.pow_add, show b + (64 - b) = 64 by omega]
  exact n.toNat_lt
theorem place_ar {b : Nat} (n : UInt64) (hb : 3 ≤ b ∧ b ≤ 8) : ((n.toNat : Int).fdiv (2 ^ min ((64 : Int) - b).toNat IntKind.u64.bits)) = (placeR b n : Nat) := by
  rw [show ((64 : Int) - b).toNat = 64 - b by omega, show min (64 - b) IntKind.u64.bits = 64 - b by simp [IntKind.bits], Int.fdiv_eq_ediv_of_nonneg _ (Int.le_of_lt (Int.pow_pos (by omega)))]
  unfold placeR; norm_cast
theorem place_small {b : Nat} (n : UInt64) (hb : 3 ≤ b ∧ b ≤ 8) : placeR b n < 256 := Nat.lt_of_lt_of_le (placeR_lt n (by omega)) (Nat.le_trans (Nat.pow_le_pow_right (by omega) hb.2) (by decide))
theorem rest_ar {b : Nat} (n : UInt64) (hb : 3 ≤ b ∧ b ≤ 8) : IntKind.u64.wrap ((n.toNat : Int) * 2 ^ min (b : Int).toNat IntKind.u64.bits) = (restR b n : Nat) := by
  rw [show (b : Int).toNat = b by omega, show min b IntKind.u64.bits = b by simp [IntKind.bits]; omega, wrapU]
  unfold restR
  rw [Int.natCast_emod, Int.natCast_mul, Int.natCast_pow]; rfl
theorem rank_eq {b : Nat} (n : UInt64) (hb : 3 ≤ b ∧ b ≤ 8) : min (64 - lenI (restR b n : Nat) + 1) (65 - (b : Int)) = (rankR b n : Nat) := by
  unfold rankR lenI
  by_cases h : restR b n = 0
  · rw [if_pos h, if_pos (by omega)]; omega
  · rw [if_neg h, if_neg (by omega), Int.toNat_natCast]
    have h1 : b ≤ Nat.log2 (restR b n) := (Nat.le_log2 h).2 (by
      rw [rest_eq n (by omega)] at h ⊢
      rcases Nat.eq_zero_or_pos (n.toNat % 2 ^ (64 - b)) with h2 | h2
      · rw [h2, Nat.zero_mul] at h; exact absurd rfl h
      · exact Nat.le_mul_of_pos_left _ h2)
    have h3 := (Nat.log2_lt h).2 (restR_lt b n)
    omega
theorem lenI_64 {b : Nat} (n : UInt64) : 0 ≤ lenI (restR b n : Nat) ∧ lenI (restR b n : Nat) ≤ 64 := lenI_range ⟨by omega, by have := restR_lt b n; omega⟩

theorem c_lz64 (v : Int) (hv : 0 ≤ v ∧ v ≤ 18446744073709551615) : Ct Tryz.prog 201 [] [.int .u64 v] [] (Rv (.int .i64 (64 - lenI v))) := by
  have hr := lenI_range hv
  refine Ct.of Tryz.func201 rfl (n := 6) rfl rfl rfl ?_
  conv => whnf
  repeat' first
    | (refine Ob.mk rfl ?_; conv => whnf)
    | (refine Nx.mk ?_; conv => whnf)
    | (show CallK _ _ 148 _ _ _ _; refine CallK.rv (c_lenI v hv) (by repeat' (first | exact trivial | exact .head _ | apply List.Mem.tail | apply And.intro)) (Nx.go ?_))
    | (refine AR.i64 (by omega) ?_; conv => whnf)
    | (refine AR.u64 (by omega) ?_; conv => whnf)
    | (refine AR.u8 (by omega) ?_; conv => whnf)
    | (refine Ob.mk (by omega) ?_; conv => whnf)
  all_goals rfl

theorem c_place (b : Nat) (hb : 3 ≤ b ∧ b ≤ 8) (n : UInt64) : Ct Tryz.prog 195 [] [.int .i64 b, .int .u64 n.toNat] [] (Rv (.tup [.int .i64 (placeR b n), .int .i64 (rankR b n)])) := by
  have hr := lenI_64 (b := b) n
  have hp := place_small n hb
  have hq := restR_lt b n
  refine Ct.of Tryz.func195 rfl (n := 22) rfl rfl rfl ?_
  conv => whnf
  repeat' first
    | (refine AR.is (rest_ar n hb) ?_; conv => whnf)
    | (rw [place_ar n hb]; refine AR.i64 (by omega) ?_; conv => whnf)
    | (refine Ob.mk rfl ?_; conv => whnf)
    | (refine Nx.mk ?_; conv => whnf)
    | (refine BR.yes ?_; conv => whnf)
    | (refine BR.no ?_; conv => whnf)
    | (show CallK _ _ 127 _ _ _ _; refine CallK.rv (c_isBits _) (by repeat' (first | exact trivial | exact .head _ | apply List.Mem.tail | apply And.intro)) (Nx.go ?_))
    | (show CallK _ _ 201 _ _ _ _; refine CallK.rv (c_lz64 _ ⟨by omega, by omega⟩) (by repeat' (first | exact trivial | exact .head _ | apply List.Mem.tail | apply And.intro)) (Nx.go ?_))
    | (show CallK _ _ 128 _ _ _ _; refine CallK.rv (c_most _ (by omega)) (by repeat' (first | exact trivial | exact .head _ | apply List.Mem.tail | apply And.intro)) (Nx.go ?_))
    | (refine SemC.draw 3 [] [.t 0, .t 1, .t 2, .t 3, .t 4, .t 5, .t 6, .t 7, .t 10, .s 8, .t 9, .s 11, .t 12, .t 13, .t 14] (by kernel_rfl) (by kernel_rfl) ?_; conv => whnf)
    | (refine AR.i64 (by omega) ?_; conv => whnf)
    | (refine AR.u64 (by omega) ?_; conv => whnf)
    | (refine AR.u8 (by omega) ?_; conv => whnf)
    | (refine Ob.mk (by omega) ?_; conv => whnf)
    | (refine BR.mk (fun h => ?_) (fun h => ?_) <;> (first | rw [Bool.not_eq_true'] at h | rw [Bool.not_eq_false'] at h | skip) <;> (try rw [h]) <;> (first | replace h := of_decide_eq_true h | replace h := of_decide_eq_false h | replace h := eq_of_beq h | replace h := bne_iff_ne.1 h | replace h := beq_eq_false_iff_ne.1 h | replace h := bne_eq_false_iff_eq.1 h | skip) <;> conv => whnf)
  · exact absurd ⟨by omega, by omega⟩ h
  · simp only [resS]; rw [rank_eq n hb]

structure WorkR where
  b0 : Nat
  b : Nat
  wb : Nat
  p : Option Addr
  c : Nat
/-- registers at work: bits, the text they came from, the row, what it holds -/
abbrev wkR (k : Nat) (bits : Int) (r0 : List UInt8) (t1 t2 : TypeId) (y : WorkR) (L : List UInt8) : LBs := [(y.b, .vec encB 1 t2 y.p L.length y.c L), (y.wb, .cells [.int .i64 bits, .str r0, .vec k y.p L.length y.c] t1)]
theorem addsR_len (b : Nat) (r : List UInt8) (l : List UInt64) : (addsR b r l).length = r.length := by
  induction l generalizing r with
  | nil => rfl
  | cons n l ih => show (addsR b (addR b r n) l).length = _; rw [ih, addR, List.length_modify]
structure AddR where
  i : Nat
  L : List UInt8
def AddRI (b : Nat) (r : List UInt8) (l : List UInt64) (j : AddR) : Prop := j.i ≤ l.length ∧ j.L = addsR b r (l.take j.i)
theorem AddRI.len {b : Nat} {r : List UInt8} {l : List UInt64} {j : AddR} (h : AddRI b r l j) : j.L.length = r.length := by rw [h.2, addsR_len]
theorem AddRI.step {b : Nat} {r : List UInt8} {l : List UInt64} {j : AddR} {n : UInt64} {x : UInt8} (h : AddRI b r l j) (hn : l[j.i]? = some n) (hx : j.L[placeR b n]? = some x) : AddRI b r l ⟨j.i + 1, j.L.set (placeR b n) (maxB x (UInt8.ofNat (rankR b n)))⟩ := by
  refine ⟨(List.getElem?_eq_some_iff.1 hn).1, ?_⟩
  show j.L.set _ _ = addsR b r (l.take (j.i + 1))
  have e : addsR b r (l.take j.i ++ [n]) = addR b (addsR b r (l.take j.i)) n := by simp [addsR]
  rw [take_snoc hn, e, ← h.2, addR]
  refine List.ext_getElem? fun k => ?_
  rw [List.getElem?_modify, List.getElem?_set]
  by_cases hk : placeR b n = k
  · subst hk; rw [if_pos rfl, if_pos (List.getElem?_eq_some_iff.1 hx).1, hx]; simp
  · rw [if_neg hk]; simp [hk]
theorem maxB_enc {b : Nat} (x : UInt8) (n : UInt64) (hb : b ≤ 64) : encB (maxB x (UInt8.ofNat (rankR b n))) = [.int .u8 (max (x.toNat : Int) (rankR b n))] := by
  rw [encB, maxB_nat, rank_nat n hb]; congr 2; omega

theorem c_hadd (b : Nat) (hb : 3 ≤ b ∧ b ≤ 8) (r0 r : List UInt8) (l : Sli UInt64) (y : WorkR) (hr : r.length = 2 ^ b) : Ct Tryz.prog 187 (wkR 0 b r0 278 5 y r) [.own 1 y.wb 0, l.sv] [l.f encU 1] (Rs (fun _ : Unit => .tup []) (fun _ => wkR 0 b r0 278 5 y (addsR b r l.l)) (fun _ => [l.f encU 1]) (fun _ => True)) := by
  refine Ct.len (enc := encU) (L := l.l) (List.Mem.head _) fun hl => ?_
  refine Ct.post (Ct.of Tryz.func187 rfl (n := 41) rfl rfl rfl ?_)
  conv => whnf
  repeat' first
    | (have hL := hi.len; have hp := placeR_lt xe (show b ≤ 64 by omega); have hq := rankR_small (b := b) xe (by omega); refine AR.u8 (by omega) ?_; conv => whnf)
    | (show SemO _ _ (.store _ _ _) _ _ _ _ _; refine SemO.storeVel ?_; (conv => whnf); refine Ob.mk ⟨rfl, rfl, rfl, rfl, rfl, Nat.le_of_ble_eq_true rfl, by (have hL := hi.len; have hp := placeR_lt xe (show b ≤ 64 by omega); omega)⟩ ?_)
    | (refine Ob.mk ⟨rfl, rfl, rfl, rfl, by (have hL := hi.len; have hp := placeR_lt xe (show b ≤ 64 by omega); omega)⟩ ?_; conv => whnf)
    | (refine Ob.mk ⟨rfl, rfl, by (have hL := hi.len; have hp := placeR_lt xe (show b ≤ 64 by omega); omega)⟩ ?_; conv => whnf)
    | (intro x9 hx9; obtain rfl := Option.some.inj (hx8.symm.trans hx9); show StQ _ _ 0 _ _; refine StQ.mk' (maxB x8 (UInt8.ofNat (rankR b xe))) (maxB_enc x8 xe (by omega)) ?_; conv => whnf)
    | (intro x8 hx8; conv => whnf)
    | (refine Ob.mk rfl ?_; conv => whnf)
    | (refine Nx.mk ?_; conv => whnf)
    | (refine BR.yes ?_; conv => whnf)
    | (refine BR.no ?_; conv => whnf)
    | (show CallK _ _ 195 _ _ _ _; refine CallK.rv (c_place b hb xe) (by repeat' (first | exact trivial | exact .head _ | apply List.Mem.tail | apply And.intro)) (Nx.go ?_))
    | (show SemC _ _ _ (.loop (.seq (.region 1 _ _) _)) _ _ _ _ _; refine SemC.loopB (c := (.seq (.region 1 _ _) _)) (fun j : AddR => [(10, .int .i64 j.i)]) (fun j => (wkR 0 b r0 278 5 y j.L)) (fun j => AddRI b r l.l j) (fun j => l.l.length - j.i) ⟨0, r⟩ ?_; (conv => whnf); refine LoopQ.mk ?_ ⟨(by repeat (first | exact trivial | refine ⟨rfl, ?_⟩ | refine ⟨congrArg (Value.int _) (by omega), ?_⟩)), Imp.refl⟩ (fun j hi => ?_))
    | (show Exists _; refine Exists.intro (⟨j.i + 1, j.L.set (placeR b xe) (maxB x8 (UInt8.ofNat (rankR b xe)))⟩) ⟨?_, ?_, rfl, ⟨(by repeat (first | exact trivial | refine ⟨rfl, ?_⟩ | refine ⟨congrArg (Value.int _) (by omega), ?_⟩)), Imp.eq (by simp only [wkR, List.length_set])⟩⟩)
    | (show Post _ _ _ _ _; exact Rs.post () rfl ((Imp.eq (by rw [hi.2, take_all (by omega)])).trans (Imp.to 2 rfl (by repeat' (first | exact trivial | exact .head _ | apply List.Mem.tail | apply And.intro)))) trivial)
    | (refine SemC.draw 4 [] [.t 0, .t 1, .t 2, .t 3, .t 4, .t 5, .t 6, .t 7, .t 8, .t 9, .t 10, .t 11, .t 12, .t 13, .t 14, .t 15, .l 16] (by kernel_rfl) (by kernel_rfl) ?_; conv => whnf)
    | (refine Idx.nat ?_; conv => whnf)
    | (refine Idx.is _ rfl ?_; conv => whnf)
    | (show HasP _ _ _ _ _ _; refine HasP.mk' (by repeat (first | exact .head _ | apply List.Mem.tail)) (Nx.go ?_))
    | (show RdE _ _ _ _ _ _ _; refine RdE.s (by repeat (first | exact .head _ | apply List.Mem.tail)) (by omega) (fun xe hxe => Nx.go ?_))
    | (show RdB _ _ _; refine RdB.mk' (by repeat (first | exact .head _ | apply List.Mem.tail)) (Nx.go ?_))
    | (refine AR.i64 (by omega) ?_; conv => whnf)
    | (refine AR.u64 (by omega) ?_; conv => whnf)
    | (refine AR.u8 (by omega) ?_; conv => whnf)
    | (refine Ob.mk (by omega) ?_; conv => whnf)
    | (refine BR.mk (fun h => ?_) (fun h => ?_) <;> (first | rw [Bool.not_eq_true'] at h | rw [Bool.not_eq_false'] at h | skip) <;> (try rw [h]) <;> (first | replace h := of_decide_eq_true h | replace h := of_decide_eq_false h | replace h := eq_of_beq h | replace h := bne_iff_ne.1 h | replace h := beq_eq_false_iff_ne.1 h | replace h := bne_eq_false_iff_eq.1 h | skip) <;> conv => whnf)
  · exact ⟨Nat.zero_le _, rfl⟩
  · exact hi.step hxe hx8
  · show l.l.length - (j.i + 1) < _; omega
end Go.Proofs.YtikjigkkhdkibaaGreatDoor

/- ladder: M10 -/
namespace Go.Proofs.YtikjigkkhdkibaaGreatDoor
open Go.Proofs.YtikjigkkhdkibaaGreatDoor.W
set_option maxRecDepth 100000
set_option linter.unusedVariables false
theorem wk_imp {P : Program} (k m : Nat) (bits : Int) (r0 : List UInt8) (t1 t2 : TypeId) (y : WorkR) (L : List UInt8) (Φ : Facts) : Imp P (wkR k bits r0 t1 t2 y L) Φ (wkR m bits r0 t1 t2 y L) Φ :=
  Imp.trans (Imp.recell (cs' := [.int .i64 bits, .str r0, .vec m y.p L.length y.c]) 1 rfl rfl) Imp.refl
theorem c_haddK (k : Nat) (b : Nat) (hb : 3 ≤ b ∧ b ≤ 8) (r0 r : List UInt8) (l : Sli UInt64) (y : WorkR) (hr : r.length = 2 ^ b) : Ct Tryz.prog 187 (wkR k b r0 278 5 y r) [.own 1 y.wb 0, l.sv] [l.f encU 1] (Rs (fun _ : Unit => .tup []) (fun _ => wkR k b r0 278 5 y (addsR b r l.l)) (fun _ => [l.f encU 1]) (fun _ => True)) :=
  ((c_hadd b hb r0 r l y hr).lentAs (wk_imp k 0 _ _ _ _ _ _ _)).said (fun _ => rfl) fun _ _ => wk_imp 0 k _ _ _ _ _ _ _

theorem c_hend (bits : Int) (r0 L : List UInt8) (y : WorkR) : Ct Tryz.prog 188 (wkR 0 bits r0 278 5 y L) [.own 1 y.wb 0] [] (Rs (fun _ : Unit => .agg [.int .i64 bits, .str L]) (fun _ => wkR 0 bits r0 278 5 y L) (fun _ => []) (fun _ => True)) := by
  refine Ct.post (Ct.of Tryz.func188 rfl (n := 14) rfl rfl rfl ?_)
  conv => whnf
  repeat' first
    | (show SemO _ _ (.convert _ _ _) _ _ _ _ _; refine SemO.toStrV (by kernel_rfl) ?_; (conv => whnf); refine Ob.mk ⟨rfl, rfl, rfl, rfl⟩ (B2S.mk' ?_); conv => whnf)
    | (refine Ob.mk rfl ?_; conv => whnf)
    | (refine Nx.mk ?_; conv => whnf)
    | (intro bk; conv => whnf)
    | (show Post _ _ _ _ _; exact Rs.post () rfl (Imp.to 2 rfl (by repeat' (first | exact trivial | exact .head _ | apply List.Mem.tail | apply And.intro))) trivial)
    | (refine SemC.draw 1 [] [.t 0, .t 1, .t 2, .t 3, .t 4, .t 5, .t 6, .t 7, .t 8, .s 9, .t 10, .l 11] (by kernel_rfl) (by kernel_rfl) ?_; conv => whnf)
    | (show RdB _ _ _; refine RdB.mk' (by repeat (first | exact .head _ | apply List.Mem.tail)) (Nx.go ?_))
    | (refine AR.i64 (by omega) ?_; conv => whnf)
    | (refine AR.u64 (by omega) ?_; conv => whnf)
    | (refine AR.u8 (by omega) ?_; conv => whnf)
    | (refine Ob.mk (by omega) ?_; conv => whnf)

theorem hllR_len {bits : Int} {r : List UInt8} (h : hllRight bits r = true) : r.length ≤ 9223372036854775807 := by
  simp only [hllRight, Bool.and_eq_true, decide_eq_true_eq] at h
  have := (pow_small (n := bits) (by omega)).2
  omega
theorem c_hendK (k : Nat) (bits : Int) (r0 L : List UInt8) (y : WorkR) : Ct Tryz.prog 188 (wkR k bits r0 278 5 y L) [.own 1 y.wb 0] [] (Rs (fun _ : Unit => .agg [.int .i64 bits, .str L]) (fun _ => wkR k bits r0 278 5 y L) (fun _ => []) (fun _ => True)) :=
  ((c_hend bits r0 L y).lentAs (wk_imp k 0 _ _ _ _ _ _ _)).said (fun _ => rfl) fun _ _ => wk_imp 0 k _ _ _ _ _ _ _
theorem c_hrT (bits : Int) (r : List UInt8) (h : hllRight bits r = true) : Ct Tryz.prog 108 [] [.agg [.int .i64 bits, .str r]] [] (Rv (.bool true)) := h ▸ c_hllRight bits r (hllR_len h)
theorem hllR_bits {b : Nat} {r : List UInt8} (h : hllRight b r = true) : (3 ≤ b ∧ b ≤ 8) ∧ r.length = 2 ^ b ∧ ∀ u ∈ r, u.toNat ≤ 65 - b := by
  simp only [hllRight, Bool.and_eq_true, decide_eq_true_eq, List.all_eq_true] at h
  obtain ⟨⟨h1, h2, h3⟩, h4⟩ := h
  rw [Int.toNat_natCast] at h3
  refine ⟨by omega, by exact_mod_cast h3, fun u hu => ?_⟩
  have := h4 u hu; omega

theorem c_hstart (k : Nat) (bits : Int) (r : List UInt8) (h : hllRight bits r = true) : Ct Tryz.prog 186 [] [.agg [.int .i64 bits, .str r]] [] (Rs (fun y : WorkR => .tup [.own (k + 2) y.wb 0, .raw .nilIface]) (fun y => (y.b0, .cells [.int .i64 bits, .str r] 26) :: wkR (k + 1) bits r 278 5 y r) (fun _ => []) (fun _ => True)) := by
  refine Ct.post (Ct.of Tryz.func186 rfl (n := 15) rfl rfl rfl ?_)
  conv => whnf
  repeat' first
    | (show SemO _ _ (.convert _ _ _) _ _ _ _ _; refine SemO.toBytes (by kernel_rfl) ?_; (conv => whnf); refine Ob.mk ?_ ?_; rotate_left; (intro b2 p2 c2 hc2; conv => whnf))
    | (refine Ob.mk rfl ?_; conv => whnf)
    | (refine Nx.mk ?_; conv => whnf)
    | (refine BR.yes ?_; conv => whnf)
    | (refine BR.no ?_; conv => whnf)
    | (intro bk; conv => whnf)
    | (show CallK _ _ 108 _ _ _ _; refine CallK.rv (c_hrT bits r h) (by repeat' (first | exact trivial | exact .head _ | apply List.Mem.tail | apply And.intro)) (Nx.go ?_))
    | (show Post _ _ _ _ _; exact Rs.post ⟨_, b2, bk, p2, c2⟩ rfl (Imp.trans (Imp.recell (cs' := [.int .i64 bits, .str r, .vec (k + 1) p2 r.length c2]) 2 rfl rfl) (Imp.to 3 rfl (by repeat' (first | exact trivial | exact .head _ | apply List.Mem.tail | apply And.intro)))) trivial)
    | (show RdB _ _ _; refine RdB.mk' (by repeat (first | exact .head _ | apply List.Mem.tail)) (Nx.go ?_))
    | (refine AR.i64 (by omega) ?_; conv => whnf)
    | (refine AR.u64 (by omega) ?_; conv => whnf)
    | (refine AR.u8 (by omega) ?_; conv => whnf)
    | (refine Ob.mk (by omega) ?_; conv => whnf)
    | (refine BR.mk (fun h => ?_) (fun h => ?_) <;> (first | rw [Bool.not_eq_true'] at h | rw [Bool.not_eq_false'] at h | skip) <;> (try rw [h]) <;> (first | replace h := of_decide_eq_true h | replace h := of_decide_eq_false h | replace h := eq_of_beq h | replace h := bne_iff_ne.1 h | replace h := beq_eq_false_iff_ne.1 h | replace h := bne_eq_false_iff_eq.1 h | skip) <;> conv => whnf)
  exact hllR_len h

theorem c_hadded (b : Nat) (r : List UInt8) (h : hllRight b r = true) (l : Sli UInt64) : Ct Tryz.prog 180 [] [.agg [.int .i64 b, .str r], l.sv] [l.f encU 1] (Rv (.tup [.agg [.int .i64 b, .str (addsR b r l.l)], .int .i64 0])) := by
  obtain ⟨hb, hl, _⟩ := hllR_bits h
  refine Ct.of Tryz.func180 rfl (n := 23) rfl rfl rfl ?_
  conv => whnf
  repeat' first
    | (refine Ob.mk rfl ?_; conv => whnf)
    | (refine Nx.mk ?_; conv => whnf)
    | (refine BR.yes ?_; conv => whnf)
    | (refine BR.no ?_; conv => whnf)
    | (intro bk; conv => whnf)
    | (show CallK _ _ 186 _ _ _ _; refine CallK.rs (c_hstart 2 b r h) (by repeat' (first | exact trivial | exact .head _ | apply List.Mem.tail | apply And.intro)) (fun y hy => ⟨rfl, Nx.go ?_⟩))
    | (show CallK _ _ 187 _ _ _ _; refine CallK.lendS [3, 4] (c_haddK 3 b hb r r l y hl) ⟨rfl, rfl, trivial⟩ rfl rfl rfl (by repeat' (first | exact trivial | exact .head _ | apply List.Mem.tail | apply And.intro)) (fun _ _ => ⟨rfl, Nx.go ?_⟩))
    | (show CallK _ _ 188 _ _ _ _; refine CallK.lendS [3, 4] (c_hendK 3 b r (addsR b r l.l) y) ⟨rfl, rfl, trivial⟩ rfl rfl rfl (by repeat' (first | exact trivial | exact .head _ | apply List.Mem.tail | apply And.intro)) (fun _ _ => ⟨rfl, Nx.go ?_⟩))
    | (show RdB _ _ _; refine RdB.mk' (by repeat (first | exact .head _ | apply List.Mem.tail)) (Nx.go ?_))
    | (refine AR.i64 (by omega) ?_; conv => whnf)
    | (refine AR.u64 (by omega) ?_; conv => whnf)
    | (refine AR.u8 (by omega) ?_; conv => whnf)
    | (refine Ob.mk (by omega) ?_; conv => whnf)
    | (refine BR.mk (fun h => ?_) (fun h => ?_) <;> (first | rw [Bool.not_eq_true'] at h | rw [Bool.not_eq_false'] at h | skip) <;> (try rw [h]) <;> (first | replace h := of_decide_eq_true h | replace h := of_decide_eq_false h | replace h := eq_of_beq h | replace h := bne_iff_ne.1 h | replace h := beq_eq_false_iff_ne.1 h | replace h := bne_eq_false_iff_eq.1 h | skip) <;> conv => whnf)
  all_goals rfl
end Go.Proofs.YtikjigkkhdkibaaGreatDoor

/- The library's Sort and Repeat, laid by the kit's tool at this dump. -/
namespace Go.Proofs.YtikjigkkhdkibaaGreatDoor
open Go.Shelf
def sh_keys_ren : Go.Shelf.Ren := ⟨fun | 7 => 276 | 10 => 280 | n => n, fun | 23 => 335 | 26 => 3 | 3 => 50 | 28 => 317 | 0 => 0 | 27 => 316 | 33 => 152 | 4 => 4 | n => n, fun | n => n⟩
theorem sh_keys : Go.Proofs.SlLaysZI.n7 Tryz.prog sh_keys_ren := {
  mixed := by kernel_rfl
  f7 := ⟨Tryz.f276.name, by decide, Tryz.func276.trans (congrArg some (by kernel_rfl))⟩
  f10 := ⟨Tryz.f280.name, by decide, Tryz.func280.trans (congrArg some (by kernel_rfl))⟩
  t0 := Tryz.underlying0
  a0 := Tryz.isAgg0
  z0 := Tryz.sizeOf0
  v0 := Tryz.zeroValue0
  t4 := Tryz.underlying4
  a4 := Tryz.isAgg4
  z4 := Tryz.sizeOf4
  v4 := Tryz.zeroValue4
  t23 := Tryz.underlying335
  a23 := Tryz.isAgg335
  z23 := Tryz.sizeOf335
  v23 := Tryz.zeroValue335
  t26 := Tryz.underlying3
  a26 := Tryz.isAgg3
  z26 := Tryz.sizeOf3
  v26 := Tryz.zeroValue3
  t27 := Tryz.underlying316
  a27 := Tryz.isAgg316
  z27 := Tryz.sizeOf316
  v27 := Tryz.zeroValue316
  t28 := Tryz.underlying317
  a28 := Tryz.isAgg317
  z28 := Tryz.sizeOf317
  v28 := Tryz.zeroValue317
  t33 := Tryz.underlying152
  a33 := Tryz.isAgg152
  z33 := Tryz.sizeOf152
  v33 := Tryz.zeroValue152
}
def sh_sorted_ren : Go.Shelf.Ren := ⟨fun | 6 => 275 | 8 => 278 | 9 => 279 | 11 => 281 | 13 => 283 | 12 => 282 | 23 => 293 | 24 => 148 | 14 => 284 | 15 => 285 | 16 => 286 | 17 => 287 | 18 => 288 | 19 => 289 | 20 => 290 | 21 => 291 | 22 => 292 | 25 => 294 | 26 => 295 | 27 => 296 | 28 => 297 | 29 => 298 | 30 => 299 | 31 => 300 | n => n, fun | 26 => 3 | 28 => 317 | 24 => 339 | 0 => 0 | 3 => 3 | 37 => 186 | 48 => 213 | 50 => 50 | 4 => 4 | 40 => 348 | 39 => 347 | 45 => 95 | 5 => 5 | 9 => 9 | 51 => 353 | 55 => 357 | 57 => 359 | 58 => 145 | 33 => 152 | n => n, fun | n => n⟩
theorem sh_sorted : Go.Proofs.SlLaysZI.n6 Tryz.prog sh_sorted_ren := {
  mixed := by kernel_rfl
  f6 := ⟨Tryz.f275.name, by decide, Tryz.func275.trans (congrArg some (by kernel_rfl))⟩
  f8 := ⟨Tryz.f278.name, by decide, Tryz.func278.trans (congrArg some (by kernel_rfl))⟩
  f11 := ⟨Tryz.f281.name, by decide, Tryz.func281.trans (congrArg some (by kernel_rfl))⟩
  t0 := Tryz.underlying0
  a0 := Tryz.isAgg0
  z0 := Tryz.sizeOf0
  v0 := Tryz.zeroValue0
  t24 := Tryz.underlying339
  a24 := Tryz.isAgg339
  z24 := Tryz.sizeOf339
  v24 := Tryz.zeroValue339
  t26 := Tryz.underlying3
  a26 := Tryz.isAgg3
  z26 := Tryz.sizeOf3
  v26 := Tryz.zeroValue3
  t28 := Tryz.underlying317
  a28 := Tryz.isAgg317
  z28 := Tryz.sizeOf317
  v28 := Tryz.zeroValue317
  i26 := by kernel_rfl
}
def sh_sort_ren : Go.Shelf.Ren := ⟨fun | 5 => 279 | 8 => 283 | 7 => 282 | 19 => 293 | 20 => 148 | 10 => 284 | 11 => 285 | 12 => 286 | 13 => 287 | 14 => 288 | 15 => 289 | 16 => 290 | 17 => 291 | 18 => 292 | 30 => 294 | 31 => 295 | 32 => 296 | 33 => 297 | 34 => 298 | 35 => 299 | 40 => 300 | n => n, fun | 23 => 339 | 25 => 3 | 3 => 3 | 32 => 186 | 22 => 339 | 0 => 0 | 44 => 213 | 46 => 50 | 4 => 4 | 36 => 348 | 35 => 347 | 41 => 95 | 5 => 5 | 9 => 9 | 53 => 353 | 57 => 357 | 63 => 359 | 64 => 145 | n => n, fun | n => n⟩
theorem sh_sort : Go.Proofs.SlLaysM.n5 Tryz.prog sh_sort_ren := {
  mixed := by kernel_rfl
  f5 := ⟨Tryz.f279.name, by decide, Tryz.func279.trans (congrArg some (by kernel_rfl))⟩
  f7 := ⟨Tryz.f282.name, by decide, Tryz.func282.trans (congrArg some (by kernel_rfl))⟩
  f8 := Tryz.func283.trans (congrArg some (by kernel_rfl))
  f10 := ⟨Tryz.f284.name, by decide, Tryz.func284.trans (congrArg some (by kernel_rfl))⟩
  f11 := ⟨Tryz.f285.name, by decide, Tryz.func285.trans (congrArg some (by kernel_rfl))⟩
  f12 := ⟨Tryz.f286.name, by decide, Tryz.func286.trans (congrArg some (by kernel_rfl))⟩
  f13 := ⟨Tryz.f287.name, by decide, Tryz.func287.trans (congrArg some (by kernel_rfl))⟩
  f14 := ⟨Tryz.f288.name, by decide, Tryz.func288.trans (congrArg some (by kernel_rfl))⟩
  f15 := ⟨Tryz.f289.name, by decide, Tryz.func289.trans (congrArg some (by kernel_rfl))⟩
  f16 := ⟨Tryz.f290.name, by decide, Tryz.func290.trans (congrArg some (by kernel_rfl))⟩
  f17 := ⟨Tryz.f291.name, by decide, Tryz.func291.trans (congrArg some (by kernel_rfl))⟩
  f18 := ⟨Tryz.f292.name, by decide, Tryz.func292.trans (congrArg some (by kernel_rfl))⟩
  f19 := Tryz.func293.trans (congrArg some (by kernel_rfl))
  f20 := Tryz.func148.trans (congrArg some (by kernel_rfl))
  f30 := ⟨Tryz.f294.name, by decide, Tryz.func294.trans (congrArg some (by kernel_rfl))⟩
  f31 := Tryz.func295.trans (congrArg some (by kernel_rfl))
  f32 := Tryz.func296.trans (congrArg some (by kernel_rfl))
  f33 := ⟨Tryz.f297.name, by decide, Tryz.func297.trans (congrArg some (by kernel_rfl))⟩
  f34 := ⟨Tryz.f298.name, by decide, Tryz.func298.trans (congrArg some (by kernel_rfl))⟩
  f35 := ⟨Tryz.f299.name, by decide, Tryz.func299.trans (congrArg some (by kernel_rfl))⟩
  f40 := ⟨Tryz.f300.name, by decide, Tryz.func300.trans (congrArg some (by kernel_rfl))⟩
  t0 := Tryz.underlying0
  a0 := Tryz.isAgg0
  z0 := Tryz.sizeOf0
  v0 := Tryz.zeroValue0
  t3 := Tryz.underlying3
  a3 := Tryz.isAgg3
  z3 := Tryz.sizeOf3
  v3 := Tryz.zeroValue3
  t4 := Tryz.underlying4
  a4 := Tryz.isAgg4
  z4 := Tryz.sizeOf4
  v4 := Tryz.zeroValue4
  t5 := Tryz.underlying5
  a5 := Tryz.isAgg5
  z5 := Tryz.sizeOf5
  v5 := Tryz.zeroValue5
  t9 := Tryz.underlying9
  a9 := Tryz.isAgg9
  z9 := Tryz.sizeOf9
  v9 := Tryz.zeroValue9
  t22 := Tryz.underlying339
  a22 := Tryz.isAgg339
  z22 := Tryz.sizeOf339
  v22 := Tryz.zeroValue339
  t23 := Tryz.underlying339
  a23 := Tryz.isAgg339
  z23 := Tryz.sizeOf339
  v23 := Tryz.zeroValue339
  t25 := Tryz.underlying3
  a25 := Tryz.isAgg3
  z25 := Tryz.sizeOf3
  v25 := Tryz.zeroValue3
  t32 := Tryz.underlying186
  a32 := Tryz.isAgg186
  z32 := Tryz.sizeOf186
  v32 := Tryz.zeroValue186
  t35 := Tryz.underlying347
  a35 := Tryz.isAgg347
  z35 := Tryz.sizeOf347
  v35 := Tryz.zeroValue347
  t36 := Tryz.underlying348
  a36 := Tryz.isAgg348
  z36 := Tryz.sizeOf348
  v36 := Tryz.zeroValue348
  t41 := Tryz.underlying95
  a41 := Tryz.isAgg95
  z41 := Tryz.sizeOf95
  v41 := Tryz.zeroValue95
  t44 := Tryz.underlying213
  a44 := Tryz.isAgg213
  z44 := Tryz.sizeOf213
  v44 := Tryz.zeroValue213
  t46 := Tryz.underlying50
  a46 := Tryz.isAgg50
  z46 := Tryz.sizeOf50
  v46 := Tryz.zeroValue50
  t53 := Tryz.underlying353
  a53 := Tryz.isAgg353
  z53 := Tryz.sizeOf353
  v53 := Tryz.zeroValue353
  t57 := Tryz.underlying357
  a57 := Tryz.isAgg357
  z57 := Tryz.sizeOf357
  v57 := Tryz.zeroValue357
  t63 := Tryz.underlying359
  a63 := Tryz.isAgg359
  z63 := Tryz.sizeOf359
  v63 := Tryz.zeroValue359
  t64 := Tryz.underlying145
  a64 := Tryz.isAgg145
  z64 := Tryz.sizeOf145
  v64 := Tryz.zeroValue145
}
def sh_lays105_ren : Go.Shelf.Ren := ⟨fun | 105 => 185 | 212 => 191 | 99 => 192 | 165 => 193 | 166 => 98 | 170 => 194 | 169 => 100 | 263 => 197 | 264 => 198 | 206 => 199 | 240 => 119 | 241 => 200 | 276 => 137 | 277 => 204 | n => n, fun | 9 => 9 | 3 => 3 | 4 => 4 | 20 => 20 | 0 => 0 | 46 => 186 | 109 => 273 | 5 => 5 | 72 => 157 | 76 => 158 | 51 => 213 | 146 => 280 | 53 => 50 | 148 => 282 | 70 => 155 | 37 => 138 | 75 => 74 | 127 => 189 | 164 => 202 | 80 => 161 | n => n, fun | n => n⟩
theorem sh_lays105 : Go.Proofs.Lays.n105 Tryz.prog sh_lays105_ren := {
  mixed := by kernel_rfl
  f99 := Tryz.func192.trans (congrArg some (by kernel_rfl))
  f105 := Tryz.func185.trans (congrArg some (by kernel_rfl))
  f165 := Tryz.func193.trans (congrArg some (by kernel_rfl))
  f166 := Tryz.func98.trans (congrArg some (by kernel_rfl))
  f169 := Tryz.func100.trans (congrArg some (by kernel_rfl))
  f170 := Tryz.func194.trans (congrArg some (by kernel_rfl))
  f206 := Tryz.func199.trans (congrArg some (by kernel_rfl))
  f212 := Tryz.func191.trans (congrArg some (by kernel_rfl))
  f240 := Tryz.func119.trans (congrArg some (by kernel_rfl))
  f241 := Tryz.func200.trans (congrArg some (by kernel_rfl))
  f263 := Tryz.func197.trans (congrArg some (by kernel_rfl))
  f264 := Tryz.func198.trans (congrArg some (by kernel_rfl))
  f276 := Tryz.func137.trans (congrArg some (by kernel_rfl))
  f277 := Tryz.func204.trans (congrArg some (by kernel_rfl))
  t0 := Tryz.underlying0
  a0 := Tryz.isAgg0
  z0 := Tryz.sizeOf0
  v0 := Tryz.zeroValue0
  t3 := Tryz.underlying3
  a3 := Tryz.isAgg3
  z3 := Tryz.sizeOf3
  v3 := Tryz.zeroValue3
  t4 := Tryz.underlying4
  a4 := Tryz.isAgg4
  z4 := Tryz.sizeOf4
  v4 := Tryz.zeroValue4
  t5 := Tryz.underlying5
  a5 := Tryz.isAgg5
  z5 := Tryz.sizeOf5
  v5 := Tryz.zeroValue5
  t9 := Tryz.underlying9
  a9 := Tryz.isAgg9
  z9 := Tryz.sizeOf9
  v9 := Tryz.zeroValue9
  t20 := Tryz.underlying20
  a20 := Tryz.isAgg20
  z20 := Tryz.sizeOf20
  v20 := Tryz.zeroValue20
  t37 := Tryz.underlying138
  a37 := Tryz.isAgg138
  z37 := Tryz.sizeOf138
  v37 := Tryz.zeroValue138
  t46 := Tryz.underlying186
  a46 := Tryz.isAgg186
  z46 := Tryz.sizeOf186
  v46 := Tryz.zeroValue186
  t51 := Tryz.underlying213
  a51 := Tryz.isAgg213
  z51 := Tryz.sizeOf213
  v51 := Tryz.zeroValue213
  t53 := Tryz.underlying50
  a53 := Tryz.isAgg50
  z53 := Tryz.sizeOf50
  v53 := Tryz.zeroValue50
  t70 := Tryz.underlying155
  a70 := Tryz.isAgg155
  z70 := Tryz.sizeOf155
  v70 := Tryz.zeroValue155
  t72 := Tryz.underlying157
  a72 := Tryz.isAgg157
  z72 := Tryz.sizeOf157
  v72 := Tryz.zeroValue157
  t75 := Tryz.underlying74
  a75 := Tryz.isAgg74
  z75 := Tryz.sizeOf74
  v75 := Tryz.zeroValue74
  t76 := Tryz.underlying158
  a76 := Tryz.isAgg158
  z76 := Tryz.sizeOf158
  v76 := Tryz.zeroValue158
  t109 := Tryz.underlying273
  a109 := Tryz.isAgg273
  z109 := Tryz.sizeOf273
  v109 := Tryz.zeroValue273
  t127 := Tryz.underlying189
  a127 := Tryz.isAgg189
  z127 := Tryz.sizeOf189
  v127 := Tryz.zeroValue189
  t146 := Tryz.underlying280
  a146 := Tryz.isAgg280
  z146 := Tryz.sizeOf280
  v146 := Tryz.zeroValue280
  t148 := Tryz.underlying282
  a148 := Tryz.isAgg282
  z148 := Tryz.sizeOf282
  v148 := Tryz.zeroValue282
  t164 := Tryz.underlying202
  a164 := Tryz.isAgg202
  z164 := Tryz.sizeOf202
  v164 := Tryz.zeroValue202 }
theorem sh_Builder_Extra_105 : Builder.Extra Tryz.prog sh_lays105_ren := {
  sizeBuilder := by kernel_rfl
  liesBuilder := by kernel_rfl
  t5 := Tryz.underlying5
  a5 := Tryz.isAgg5
  z5 := Tryz.sizeOf5
  v5 := Tryz.zeroValue5
  infoByte := by kernel_rfl
  cellsByte := by kernel_rfl
  sizeByte := by kernel_rfl
  neB5 := by decide }
open Go.RowKit Go.Lib in
theorem sh_strings_Repeat (s : ByteArray) (c : Nat) (w : World) (hc : c ≤ 9223372036854775807) (hlen : s.size * c ≤ 140737488355328) :
    Calls Tryz.prog 185 #[.string s, .int .i64 c] w fun e w' => e = .returned (.string ⟨(Lib.repeatL s.data.toList c).toArray⟩) ∧ Below w.heap.size w w' := Any.strings_Repeat sh_lays105 sh_Builder_Extra_105 s c w hc hlen

section
open Go.RowKit Go.Maps Go.Sort Go.Shelf
theorem sh_sorts (m : Nat) : AnyZI.SortsIn Tryz.prog sh_sorted_ren Fence.wide m :=
  ⟨fun blk off cap ss W hH hblk hsz => callsIn_wide.2 (AnyM.slices_Sort_int sh_sort blk off cap ss W hH hblk hsz),
   fun p cap W => callsIn_wide.2 (AnyM.slices_Sort_int_none sh_sort p cap W)⟩
/-- slices.Sorted over the iterator over a map's keys, that a box holds -/
theorem sh_keysSorted {H : Type} (b bx nn : Nat) (D0 : DataW H) (R : Value → Option (DataW H × List MemPlace)) (w : World) (hbx : bx < w.heap.size) (hc : w.cell? ⟨bx, 0, none⟩ = some (.map (some b))) (hown : w.ownsMap Tryz.prog 3 R b nn D0) (hmax : Maps.size D0 ≤ maxLen) (hbytes : Maps.size D0 * 8 ≤ 140737488355328) :
    Calls Tryz.prog 275 #[.func (.func 280) #[] #[.pointer (some ⟨bx, 0, none⟩)]] w fun e w' => ∃ (v : Value) (ss : List Int), e = .returned v ∧ ss.Perm (intKeys D0) ∧
      w'.ownsRow w.heap.size 3 1 v ss.length ((ss.mergeSort (fun x y => decide (x ≤ y))).map encZ) ∧ (v = .slice none 0 0 ↔ ss = []) ∧ Below w.heap.size w w' := by
  refine (callsIn_wide (n := 5)).1 ?_
  have hseq : SeqGives Fence.wide 2 Tryz.prog 280 #[.pointer (some ⟨bx, 0, none⟩)] encZ (fun ss => ss.Perm (intKeys D0)) (Maps.size D0) w :=
    AnyZI.keys_gives (ρ := sh_keys_ren) { sh_keys with } Fence.wide _ trivial rfl (by omega) bx b nn D0 _ hbx hc hown
  have cS := AnyZI.sorted_in sh_sorted Fence.wide 5 trivial trivial trivial trivial rfl (by omega) (sh_sorts _) (enters_of Tryz.func279 (by kernel_rfl) rfl) 280 #[.pointer (some ⟨bx, 0, none⟩)] trivial (enters_of Tryz.func280 (by kernel_rfl) rfl) _ _ hmax hbytes _ hseq
  exact cS
end
end Go.Proofs.YtikjigkkhdkibaaGreatDoor

/- ladder: M11 -/
namespace Go.Proofs.YtikjigkkhdkibaaGreatDoor
open Go.Proofs.YtikjigkkhdkibaaGreatDoor.W
set_option maxRecDepth 100000
set_option linter.unusedVariables false
theorem repeat_zero (n : Nat) : Lib.repeatL [(0 : UInt8)] n = List.replicate n 0 := by
  induction n with
  | zero => rfl
  | succ n ih => simp [Lib.repeatL, List.replicate_succ] at ih ⊢; try exact ih
theorem c_rep (n : Nat) (hn : n ≤ 1000) : Ct Tryz.prog 185 [] [.str [0], .int .i64 n] [] (Rv (.str (List.replicate n 0))) := by
  refine ⟨fun M A w hr => ?_⟩
  have h := sh_strings_Repeat ⟨#[0]⟩ n w (by omega) (by show 1 * n ≤ _; omega)
  refine Calls.mono h fun e w' ⟨he, hb⟩ => ⟨_, he, ⟨hb.os, hb.tape, hb.output, hb.size, fun k hk _ => hb.block k hk⟩, .str (List.replicate n 0), [], [], ?_, rfl, hr.call ⟨hb.os, hb.tape, hb.output, hb.size, fun k hk _ => hb.block k hk⟩⟩
  show Value.string _ = Value.string _
  rw [show (ByteArray.mk #[0]).data.toList = [(0 : UInt8)] from rfl, repeat_zero]
theorem pow_b {b : Nat} (hb : 3 ≤ b ∧ b ≤ 8) : 8 ≤ 2 ^ b ∧ 2 ^ b ≤ 256 := ⟨Nat.pow_le_pow_right (n := 2) (i := 3) (by omega) hb.1, Nat.pow_le_pow_right (n := 2) (j := 8) (by omega) hb.2⟩
theorem shl_nat {b : Nat} (hb : 3 ≤ b ∧ b ≤ 8) : IntKind.i64.wrap (1 * 2 ^ (min (b : Int).toNat IntKind.i64.bits)) = ((2 ^ b : Nat) : Int) := by
  rw [shl1 (by omega), Int.toNat_natCast]; norm_cast
theorem newR_right {b : Nat} (hb : 3 ≤ b ∧ b ≤ 8) : hllRight b (newR b) = true := (IsRegs.new b).right hb

theorem c_hnew (b : Nat) (hb : 3 ≤ b ∧ b ≤ 8) : Ct Tryz.prog 179 [] [.int .i64 b] [] (Rv (.tup [.agg [.int .i64 b, .str (newR b)], .int .i64 0])) := by
  have hp := pow_b hb
  refine Ct.of Tryz.func179 rfl (n := 16) rfl rfl rfl ?_
  conv => whnf
  repeat' first
    | (refine AR.is (shl_nat hb) ?_; conv => whnf)
    | (show BR (!decide (3 ≤ (b : Int) ∧ (b : Int) ≤ 8)) _ _; refine BR.noK (by rw [decide_eq_true (by omega)]; rfl) ?_; conv => whnf)
    | (refine Ob.mk rfl ?_; conv => whnf)
    | (refine Nx.mk ?_; conv => whnf)
    | (refine BR.yes ?_; conv => whnf)
    | (refine BR.no ?_; conv => whnf)
    | (intro bk; conv => whnf)
    | (show CallK _ _ 127 _ _ _ _; refine CallK.rv (c_isBits _) (by repeat' (first | exact trivial | exact .head _ | apply List.Mem.tail | apply And.intro)) (Nx.go ?_))
    | (show CallK _ _ 185 _ _ _ _; refine CallK.rv (c_rep _ (by omega)) (by repeat' (first | exact trivial | exact .head _ | apply List.Mem.tail | apply And.intro)) (Nx.go ?_))
    | (refine AR.i64 (by omega) ?_; conv => whnf)
    | (refine AR.u64 (by omega) ?_; conv => whnf)
    | (refine AR.u8 (by omega) ?_; conv => whnf)
    | (refine Ob.mk (by omega) ?_; conv => whnf)
    | (refine BR.mk (fun h => ?_) (fun h => ?_) <;> (first | rw [Bool.not_eq_true'] at h | rw [Bool.not_eq_false'] at h | skip) <;> (try rw [h]) <;> (first | replace h := of_decide_eq_true h | replace h := of_decide_eq_false h | replace h := eq_of_beq h | replace h := bne_iff_ne.1 h | replace h := beq_eq_false_iff_ne.1 h | replace h := bne_eq_false_iff_eq.1 h | skip) <;> conv => whnf)
  all_goals rfl

theorem c_hOf (b : Nat) (hb : 3 ≤ b ∧ b ≤ 8) (l : Sli UInt64) : Ct Tryz.prog 176 [] [.int .i64 b, l.sv] [l.f encU 1] (Rv (.tup [.agg [.int .i64 b, .str (ofR b l.l)], .int .i64 0])) := by
  refine Ct.of Tryz.func176 rfl (n := 22) rfl rfl rfl ?_
  conv => whnf
  repeat' first
    | (refine Ob.mk rfl ?_; conv => whnf)
    | (refine Nx.mk ?_; conv => whnf)
    | (refine BR.yes ?_; conv => whnf)
    | (refine BR.no ?_; conv => whnf)
    | (intro bk; conv => whnf)
    | (show CallK _ _ 179 _ _ _ _; refine CallK.rv (c_hnew b hb) (by repeat' (first | exact trivial | exact .head _ | apply List.Mem.tail | apply And.intro)) (Nx.go ?_))
    | (show CallK _ _ 180 _ _ _ _; refine CallK.rv (c_hadded b (newR b) (newR_right hb) l) (by repeat' (first | exact trivial | exact .head _ | apply List.Mem.tail | apply And.intro)) (Nx.go ?_))
    | (show RdB _ _ _; refine RdB.mk' (by repeat (first | exact .head _ | apply List.Mem.tail)) (Nx.go ?_))
    | (refine AR.i64 (by omega) ?_; conv => whnf)
    | (refine AR.u64 (by omega) ?_; conv => whnf)
    | (refine AR.u8 (by omega) ?_; conv => whnf)
    | (refine Ob.mk (by omega) ?_; conv => whnf)
    | (refine BR.mk (fun h => ?_) (fun h => ?_) <;> (first | rw [Bool.not_eq_true'] at h | rw [Bool.not_eq_false'] at h | skip) <;> (try rw [h]) <;> (first | replace h := of_decide_eq_true h | replace h := of_decide_eq_false h | replace h := eq_of_beq h | replace h := bne_iff_ne.1 h | replace h := beq_eq_false_iff_ne.1 h | replace h := bne_eq_false_iff_eq.1 h | skip) <;> conv => whnf)
  all_goals rfl

theorem c_hadded1 (b : Nat) (r : List UInt8) (h : hllRight b r = true) (l : Sli UInt64) (n : UInt64) (hl : l.l = [n]) : Ct Tryz.prog 180 [] [.agg [.int .i64 b, .str r], l.sv] [l.f encU 1] (Rv (.tup [.agg [.int .i64 b, .str (addR b r n)], .int .i64 0])) := by
  have h1 := c_hadded b r h l
  rw [hl] at h1; exact h1

theorem c_hAdd (b : Nat) (r : List UInt8) (h : hllRight b r = true) (n : UInt64) : Ct Tryz.prog 213 [] [.agg [.int .i64 b, .str r], .int .u64 n.toNat] [] (Rv (.tup [.agg [.int .i64 b, .str (addR b r n)], .int .i64 0])) := by
  refine Ct.of Tryz.func213 rfl (n := 12) rfl rfl rfl ?_
  conv => whnf
  repeat' first
    | (show SemO _ _ (.buildSlice _ _ #[(0, .tmp 7)]) _ _ _ _ _; refine SemO.lit ?_; (conv => whnf); show BsV _ _ _ _ _; refine BsV.s [n] (by repeat (first | exact .nil | refine .cons (by first | rfl | exact encB_of (by omega) | exact encU_U (by omega)) ?_)) (fun xo _ => okU xo) (fun ys hys => Nx.go ?_))
    | (refine Ob.mk rfl ?_; conv => whnf)
    | (refine Nx.mk ?_; conv => whnf)
    | (intro bk; conv => whnf)
    | (show CallK _ _ 180 _ _ _ _; refine CallK.rv (c_hadded1 b r h ys n hys) (by repeat' (first | exact trivial | exact .head _ | apply List.Mem.tail | apply And.intro)) (Nx.go ?_))
    | (show RdB _ _ _; refine RdB.mk' (by repeat (first | exact .head _ | apply List.Mem.tail)) (Nx.go ?_))
    | (refine Ob.mk (by omega) ?_; conv => whnf)
  all_goals rfl

theorem low1_nat (a b : UInt8) (ha : a.toNat ≤ 200) : ((low1 a b).toNat : Int) = if (a.toNat : Int) > 0 then (a.toNat : Int) + 1 else min (b.toNat : Int) 1 := by
  unfold low1
  have hz : (0 < a) ↔ 0 < a.toNat := UInt8.lt_iff_toNat_lt
  have e1 : (1 : UInt8).toNat = 1 := rfl
  by_cases h0 : 0 < a.toNat
  · rw [if_pos (hz.2 h0), if_pos (show (a.toNat : Int) > 0 by omega), UInt8.toNat_add, e1]; omega
  · rw [if_neg (fun k => h0 (hz.1 k)), if_neg (show ¬ (a.toNat : Int) > 0 by omega)]
    split
    · rename_i h1; have := UInt8.le_iff_toNat_le.1 h1; omega
    · rename_i h1; have : ¬ b.toNat ≤ 1 := fun k => h1 (UInt8.le_iff_toNat_le.2 k); omega

theorem c_hlow1 (a b : UInt8) (ha : a.toNat ≤ 200) : Ct Tryz.prog 218 [] [.int .u8 a.toNat, .int .u8 b.toNat] [] (Rv (.int .u8 (low1 a b).toNat)) := by
  refine Ct.of Tryz.func218 rfl (n := 13) rfl rfl rfl ?_
  conv => whnf
  repeat' first
    | (refine Ob.mk rfl ?_; conv => whnf)
    | (refine Nx.mk ?_; conv => whnf)
    | (refine BR.yes ?_; conv => whnf)
    | (refine BR.no ?_; conv => whnf)
    | (refine AR.i64 (by omega) ?_; conv => whnf)
    | (refine AR.u64 (by omega) ?_; conv => whnf)
    | (refine AR.u8 (by omega) ?_; conv => whnf)
    | (refine Ob.mk (by omega) ?_; conv => whnf)
    | (refine BR.mk (fun h => ?_) (fun h => ?_) <;> (first | rw [Bool.not_eq_true'] at h | rw [Bool.not_eq_false'] at h | skip) <;> (try rw [h]) <;> (first | replace h := of_decide_eq_true h | replace h := of_decide_eq_false h | replace h := eq_of_beq h | replace h := bne_iff_ne.1 h | replace h := beq_eq_false_iff_ne.1 h | replace h := bne_eq_false_iff_eq.1 h | skip) <;> conv => whnf)
  all_goals (simp only [resS, low1_nat a b ha]; first | rw [if_pos h] | rw [if_neg h])
end Go.Proofs.YtikjigkkhdkibaaGreatDoor
