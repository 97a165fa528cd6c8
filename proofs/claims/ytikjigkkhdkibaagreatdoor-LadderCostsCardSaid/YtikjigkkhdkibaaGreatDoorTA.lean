/- YtikjigkkhdkibaaGreatDoorTA: a part of the proofs of given statements of this seat; no condition beyond them. -/
import Derived.Test.YtikjigkkhdkibaaGreatDoorWC
import Derived.Test.YtikjigkkhdkibaaGreatDoorWB
import Derived.Test.YtikjigkkhdkibaaGreatDoorProg
set_option linter.unusedVariables false
/- ladder: M1 -/
namespace Go.Proofs.YtikjigkkhdkibaaGreatDoor
open Go.Proofs.YtikjigkkhdkibaaGreatDoor.W
set_option maxRecDepth 100000
set_option linter.unusedVariables false
theorem c_eqU (a b : Sli UInt64) : Ct Tryz.prog 88 [] [a.sv, b.sv] [a.f encU 1, b.f encU 1] (Rv (.bool (decide (a.l = b.l)))) := by
  refine Ct.len (enc := encU) (L := a.l) (List.Mem.head _) fun ha => ?_
  refine Ct.of Tryz.func88 rfl (n := 26) rfl rfl rfl ?_
  conv => whnf
  repeat' first
    | (refine Ob.mk rfl ?_; conv => whnf)
    | (refine Nx.mk ?_; conv => whnf)
    | (refine BR.yes ?_; conv => whnf)
    | (refine BR.no ?_; conv => whnf)
    | (show SemC _ _ _ (.loop (.seq (.region 4 _ _) _)) _ _ _ _ _; refine SemC.loopC (c := (.seq (.region 4 _ _) _)) (fun i : Nat => [(13, .int .i64 i)]) (fun i => i ≤ a.l.length ∧ a.l.length = b.l.length ∧ a.l.take i = b.l.take i) (fun i => a.l.length - i) 0 ?_; (conv => whnf); refine LoopQ.mk ?_ ⟨(by repeat (first | exact trivial | refine ⟨rfl, ?_⟩ | refine ⟨congrArg (Value.int _) (by omega), ?_⟩)), Imp.refl⟩ (fun i hi => ?_))
    | (show Exists _; refine Exists.intro (i + 1) ⟨?_, ?_, rfl, ⟨(by repeat (first | exact trivial | refine ⟨rfl, ?_⟩ | refine ⟨congrArg (Value.int _) (by omega), ?_⟩)), Imp.refl⟩⟩)
    | (refine SemC.draw 6 [] [.t 0, .t 1, .t 2, .t 3, .t 4, .t 5, .t 6, .t 7, .t 8] (by kernel_rfl) (by kernel_rfl) ?_; conv => whnf)
    | (refine Idx.nat ?_; conv => whnf)
    | (refine Idx.is _ rfl ?_; conv => whnf)
    | (show HasP _ _ _ _ _ _; refine HasP.mk' (by repeat (first | exact .head _ | apply List.Mem.tail)) (Nx.go ?_))
    | (show RdE _ _ _ _ _ _ _; refine RdE.s (by repeat (first | exact .head _ | apply List.Mem.tail)) (by omega) (fun xe hxe => Nx.go ?_))
    | (show RdB _ _ _; refine RdB.mk' (by repeat (first | exact .head _ | apply List.Mem.tail)) (Nx.go ?_))
    | (refine AR.i64 (by omega) ?_; conv => whnf)
    | (refine AR.u64 (by omega) ?_; conv => whnf)
    | (refine AR.u8 (by omega) ?_; conv => whnf)
    | (refine Ob.mk (by omega) ?_; conv => whnf)
    | (refine BR.mk (fun h => ?_) (fun h => ?_) <;> (first | rw [Bool.not_eq_true'] at h | rw [Bool.not_eq_false'] at h | skip) <;> (try rw [h]) <;> (first | replace h := of_decide_eq_true h | replace h := of_decide_eq_false h | replace h := eq_of_beq h | replace h := bne_iff_ne.1 h | replace h := beq_eq_false_iff_ne.1 h | replace h := bne_eq_false_iff_eq.1 h | skip) <;> conv => whnf)
  all_goals try (simp only [resS, SV.bool.injEq, eq_comm (a := false), eq_comm (a := true), decide_eq_false_iff_not, decide_eq_true_eq] at *)
  all_goals grind [List.take_add_one, u64_inj, Bin.eq_iff]

theorem c_eqB (a b : Sli Bin) : Ct Tryz.prog 89 [] [a.sv, b.sv] [a.f encBin 2, b.f encBin 2] (Rv (.bool (decide (a.l = b.l)))) := by
  refine Ct.len (enc := encBin) (L := a.l) (List.Mem.head _) fun ha => ?_
  refine Ct.of Tryz.func89 rfl (n := 26) rfl rfl rfl ?_
  conv => whnf
  repeat' first
    | (refine Ob.mk rfl ?_; conv => whnf)
    | (refine Nx.mk ?_; conv => whnf)
    | (refine BR.yes ?_; conv => whnf)
    | (refine BR.no ?_; conv => whnf)
    | (show SemC _ _ _ (.loop (.seq (.region 4 _ _) _)) _ _ _ _ _; refine SemC.loopC (c := (.seq (.region 4 _ _) _)) (fun i : Nat => [(13, .int .i64 i)]) (fun i => i ≤ a.l.length ∧ a.l.length = b.l.length ∧ a.l.take i = b.l.take i) (fun i => a.l.length - i) 0 ?_; (conv => whnf); refine LoopQ.mk ?_ ⟨(by repeat (first | exact trivial | refine ⟨rfl, ?_⟩ | refine ⟨congrArg (Value.int _) (by omega), ?_⟩)), Imp.refl⟩ (fun i hi => ?_))
    | (show Exists _; refine Exists.intro (i + 1) ⟨?_, ?_, rfl, ⟨(by repeat (first | exact trivial | refine ⟨rfl, ?_⟩ | refine ⟨congrArg (Value.int _) (by omega), ?_⟩)), Imp.refl⟩⟩)
    | (refine BinS.agg 5 (by kernel_rfl) ?_; conv => whnf)
    | (refine Ob.mk ⟨by kernel_rfl, by kernel_rfl⟩ ?_; conv => whnf)
    | (refine SemC.draw 6 [] [.t 0, .t 1, .t 2, .t 3, .t 4, .t 5, .t 6, .t 7, .t 8] (by kernel_rfl) (by kernel_rfl) ?_; conv => whnf)
    | (refine Idx.nat ?_; conv => whnf)
    | (refine Idx.is _ rfl ?_; conv => whnf)
    | (show HasP _ _ _ _ _ _; refine HasP.mk' (by repeat (first | exact .head _ | apply List.Mem.tail)) (Nx.go ?_))
    | (show RdE _ _ _ _ _ _ _; refine RdE.s (by repeat (first | exact .head _ | apply List.Mem.tail)) (by omega) (fun xe hxe => Nx.go ?_))
    | (show RdB _ _ _; refine RdB.mk' (by repeat (first | exact .head _ | apply List.Mem.tail)) (Nx.go ?_))
    | (refine AR.i64 (by omega) ?_; conv => whnf)
    | (refine AR.u64 (by omega) ?_; conv => whnf)
    | (refine AR.u8 (by omega) ?_; conv => whnf)
    | (refine Ob.mk (by omega) ?_; conv => whnf)
    | (refine BR.mk (fun h => ?_) (fun h => ?_) <;> (first | rw [Bool.not_eq_true'] at h | rw [Bool.not_eq_false'] at h | skip) <;> (try rw [h]) <;> (first | replace h := of_decide_eq_true h | replace h := of_decide_eq_false h | replace h := eq_of_beq h | replace h := bne_iff_ne.1 h | replace h := beq_eq_false_iff_ne.1 h | replace h := bne_eq_false_iff_eq.1 h | skip) <;> conv => whnf)
  all_goals try (simp only [resS, SV.bool.injEq, eq_comm (a := false), eq_comm (a := true), decide_eq_false_iff_not, decide_eq_true_eq] at *)
  all_goals grind [List.take_add_one, u64_inj, Bin.eq_iff]

theorem c_few06 (x : Sli UInt64) : Ct Tryz.prog 38 [] [.agg [x.sv]] [x.f encU 1] (Rs (fun y : Sli UInt64 => .agg [y.sv]) (fun _ => []) (fun y => [y.f encU 1]) (fun y => y.l = x.l.take 70)) := by
  refine Ct.pure (List.Mem.head _) slF_len fun ha => ?_
  refine Ct.post (Ct.of Tryz.func38 rfl (n := 11) rfl rfl rfl ?_)
  conv => whnf
  repeat' first
    | (refine Ob.mk rfl ?_; conv => whnf)
    | (refine Nx.mk ?_; conv => whnf)
    | (intro bk; conv => whnf)
    | (refine Idx.is (min x.l.length 70) (by omega) ?_; conv => whnf)
    | (show Post _ _ _ _ _; refine Rs.post ys rfl (Imp.fs (by repeat' (first | exact trivial | exact .head _ | apply List.Mem.tail | apply And.intro))) ?_)
    | (refine Idx.nat ?_; conv => whnf)
    | (refine Idx.is _ rfl ?_; conv => whnf)
    | (show RdB _ _ _; refine RdB.mk' (by repeat (first | exact .head _ | apply List.Mem.tail)) (Nx.go ?_))
    | (show SlW _ _ _ _ _ _ _ _ _; refine SlW.s (by repeat (first | exact .head _ | apply List.Mem.tail)) (by omega) (fun ys hys hcs => Nx.go ?_))
    | (refine Ob.mk (by omega) ?_; conv => whnf)
  grind

theorem c_few07 (b : Int) (x : List UInt8) : Ct Tryz.prog 39 [] [.agg [.int .i64 b, .str x]] [] (Rv (.agg [.int .i64 b, .str (x.take 260)])) := by
  refine Ct.of Tryz.func39 rfl (n := 13) rfl rfl rfl ?_
  conv => whnf
  repeat' first
    | (refine Ob.mk rfl ?_; conv => whnf)
    | (refine Nx.mk ?_; conv => whnf)
    | (intro bk; conv => whnf)
    | (refine Idx.is (min x.length 260) (by omega) ?_; conv => whnf)
    | (refine SemC.draw 1 [] [.t 0, .t 1, .t 2, .t 3, .t 4, .t 5, .t 6, .t 7, .t 8, .t 9, .l 10] (by kernel_rfl) (by kernel_rfl) ?_; conv => whnf)
    | (refine Idx.nat ?_; conv => whnf)
    | (refine Idx.is _ rfl ?_; conv => whnf)
    | (show RdB _ _ _; refine RdB.mk' (by repeat (first | exact .head _ | apply List.Mem.tail)) (Nx.go ?_))
    | (show SlW _ _ _ _ _ _ _ _ _; refine SlW.s (by repeat (first | exact .head _ | apply List.Mem.tail)) (by omega) (fun ys hys hcs => Nx.go ?_))
    | (refine Ob.mk (by omega) ?_; conv => whnf)
  grind [resS]

theorem c_few08 (a b : Int) (x : Sli UInt64) : Ct Tryz.prog 40 [] [.agg [.int .i64 a, .int .i64 b, x.sv]] [x.f encU 1] (Rs (fun y : Sli UInt64 => .agg [.int .i64 a, .int .i64 b, y.sv]) (fun _ => []) (fun y => [y.f encU 1]) (fun y => y.l = x.l.take 200)) := by
  refine Ct.pure (List.Mem.head _) slF_len fun ha => ?_
  refine Ct.post (Ct.of Tryz.func40 rfl (n := 15) rfl rfl rfl ?_)
  conv => whnf
  repeat' first
    | (refine Ob.mk rfl ?_; conv => whnf)
    | (refine Nx.mk ?_; conv => whnf)
    | (intro bk; conv => whnf)
    | (refine Idx.is (min x.l.length 200) (by omega) ?_; conv => whnf)
    | (show Post _ _ _ _ _; refine Rs.post ys rfl (Imp.fs (by repeat' (first | exact trivial | exact .head _ | apply List.Mem.tail | apply And.intro))) ?_)
    | (refine SemC.draw 1 [] [.t 0, .t 1, .t 2, .t 3, .t 4, .t 5, .t 6, .t 7, .t 8, .t 9, .t 10, .t 11, .l 12] (by kernel_rfl) (by kernel_rfl) ?_; conv => whnf)
    | (refine Idx.nat ?_; conv => whnf)
    | (refine Idx.is _ rfl ?_; conv => whnf)
    | (show RdB _ _ _; refine RdB.mk' (by repeat (first | exact .head _ | apply List.Mem.tail)) (Nx.go ?_))
    | (show SlW _ _ _ _ _ _ _ _ _; refine SlW.s (by repeat (first | exact .head _ | apply List.Mem.tail)) (by omega) (fun ys hys hcs => Nx.go ?_))
    | (refine Ob.mk (by omega) ?_; conv => whnf)
  grind

theorem c_few09 (a : Int) (x : Sli Bin) : Ct Tryz.prog 41 [] [.agg [.int .i64 a, x.sv]] [x.f encBin 2] (Rs (fun y : Sli Bin => .agg [.int .i64 a, y.sv]) (fun _ => []) (fun y => [y.f encBin 2]) (fun y => y.l = x.l.take 300)) := by
  refine Ct.pure (List.Mem.head _) slF_len fun ha => ?_
  refine Ct.post (Ct.of Tryz.func41 rfl (n := 13) rfl rfl rfl ?_)
  conv => whnf
  repeat' first
    | (refine Ob.mk rfl ?_; conv => whnf)
    | (refine Nx.mk ?_; conv => whnf)
    | (intro bk; conv => whnf)
    | (refine Idx.is (min x.l.length 300) (by omega) ?_; conv => whnf)
    | (show Post _ _ _ _ _; refine Rs.post ys rfl (Imp.fs (by repeat' (first | exact trivial | exact .head _ | apply List.Mem.tail | apply And.intro))) ?_)
    | (refine SemC.draw 1 [] [.t 0, .t 1, .t 2, .t 3, .t 4, .t 5, .t 6, .t 7, .t 8, .t 9, .l 10] (by kernel_rfl) (by kernel_rfl) ?_; conv => whnf)
    | (refine Idx.nat ?_; conv => whnf)
    | (refine Idx.is _ rfl ?_; conv => whnf)
    | (show RdB _ _ _; refine RdB.mk' (by repeat (first | exact .head _ | apply List.Mem.tail)) (Nx.go ?_))
    | (show SlW _ _ _ _ _ _ _ _ _; refine SlW.s (by repeat (first | exact .head _ | apply List.Mem.tail)) (by omega) (fun ys hys hcs => Nx.go ?_))
    | (refine Ob.mk (by omega) ?_; conv => whnf)
  grind

theorem c_few10 (x : SkV) : Ct Tryz.prog 12 [] [x.sv] x.fs (Rs SkV.sv (fun _ => []) SkV.fs (fun y => y.sk = x.sk.few)) := by
  refine Ct.post (Ct.of Tryz.func12 rfl (n := 20) rfl rfl rfl ?_)
  conv => whnf
  repeat' first
    | (refine Ob.mk rfl ?_; conv => whnf)
    | (refine Nx.mk ?_; conv => whnf)
    | (intro bk; conv => whnf)
    | (show CallK _ _ 38 _ _ _ _; refine CallK.rf (c_few06 x.e) (by repeat' (first | exact trivial | exact .head _ | apply List.Mem.tail | apply And.intro)) (fun e he => Nx.go ?_))
    | (show CallK _ _ 39 _ _ _ _; refine CallK.rv (c_few07 x.bits x.regs) (by repeat' (first | exact trivial | exact .head _ | apply List.Mem.tail | apply And.intro)) (Nx.go ?_))
    | (show CallK _ _ 40 _ _ _ _; refine CallK.rf (c_few08 x.rows x.cols x.c) (by repeat' (first | exact trivial | exact .head _ | apply List.Mem.tail | apply And.intro)) (fun c hc => Nx.go ?_))
    | (show CallK _ _ 41 _ _ _ _; refine CallK.rf (c_few09 x.fine x.g) (by repeat' (first | exact trivial | exact .head _ | apply List.Mem.tail | apply And.intro)) (fun g hg => Nx.go ?_))
    | (show Post _ _ _ _ _; refine Rs.post { x with e := e, regs := x.regs.take 260, c := c, g := g } rfl ((Imp.pure (p := (x.regs.take 260).length ≤ 9223372036854775807) (by simp; omega)).trans (Imp.fs (by repeat' (first | exact trivial | exact .head _ | apply List.Mem.tail | apply And.intro)))) ?_)
    | (refine SemC.draw 1 [] [.t 0, .t 1, .t 2, .t 3, .t 4, .t 5, .t 7, .t 8, .t 10, .t 11, .t 13, .t 14, .s 6, .s 9, .s 12, .s 15, .t 16, .l 17] (by kernel_rfl) (by kernel_rfl) ?_; conv => whnf)
    | (show RdB _ _ _; refine RdB.mk' (by repeat (first | exact .head _ | apply List.Mem.tail)) (Nx.go ?_))
    | (refine Ob.mk (by omega) ?_; conv => whnf)
  simp [SkV.sk, Sk.few, he, hc, hg]

theorem c_exactSame (a b : Sli UInt64) : Ct Tryz.prog 53 [] [.agg [a.sv], .agg [b.sv]] [a.f encU 1, b.f encU 1] (Rv (.bool (decide (a.l = b.l)))) := by
  refine Ct.of Tryz.func53 rfl (n := 10) rfl rfl rfl ?_
  conv => whnf
  repeat' first
    | (refine Ob.mk rfl ?_; conv => whnf)
    | (refine Nx.mk ?_; conv => whnf)
    | (intro bk; conv => whnf)
    | (show CallK _ _ 88 _ _ _ _; refine CallK.rv (c_eqU a b) (by repeat' (first | exact trivial | exact .head _ | apply List.Mem.tail | apply And.intro)) (Nx.go ?_))
    | (show RdB _ _ _; refine RdB.mk' (by repeat (first | exact .head _ | apply List.Mem.tail)) (Nx.go ?_))
    | (refine Ob.mk (by omega) ?_; conv => whnf)
  rfl

theorem c_cmsSame (r c r2 c2 : Int) (a b : Sli UInt64) : Ct Tryz.prog 54 [] [.agg [.int .i64 r, .int .i64 c, a.sv], .agg [.int .i64 r2, .int .i64 c2, b.sv]] [a.f encU 1, b.f encU 1] (Rv (.bool (decide (r = r2 ∧ c = c2 ∧ a.l = b.l)))) := by
  refine Ct.of Tryz.func54 rfl (n := 24) rfl rfl rfl ?_
  conv => whnf
  repeat' first
    | (refine Ob.mk rfl ?_; conv => whnf)
    | (refine Nx.mk ?_; conv => whnf)
    | (refine BR.yes ?_; conv => whnf)
    | (refine BR.no ?_; conv => whnf)
    | (intro bk; conv => whnf)
    | (show CallK _ _ 88 _ _ _ _; refine CallK.rv (c_eqU a b) (by repeat' (first | exact trivial | exact .head _ | apply List.Mem.tail | apply And.intro)) (Nx.go ?_))
    | (show RdB _ _ _; refine RdB.mk' (by repeat (first | exact .head _ | apply List.Mem.tail)) (Nx.go ?_))
    | (refine AR.i64 (by omega) ?_; conv => whnf)
    | (refine AR.u64 (by omega) ?_; conv => whnf)
    | (refine AR.u8 (by omega) ?_; conv => whnf)
    | (refine Ob.mk (by omega) ?_; conv => whnf)
    | (refine BR.mk (fun h => ?_) (fun h => ?_) <;> (first | rw [Bool.not_eq_true'] at h | rw [Bool.not_eq_false'] at h | skip) <;> (try rw [h]) <;> (first | replace h := of_decide_eq_true h | replace h := of_decide_eq_false h | replace h := eq_of_beq h | replace h := bne_iff_ne.1 h | replace h := beq_eq_false_iff_ne.1 h | replace h := bne_eq_false_iff_eq.1 h | skip) <;> conv => whnf)
  all_goals grind [resS]

theorem c_histSame (r r2 : Int) (a b : Sli Bin) : Ct Tryz.prog 55 [] [.agg [.int .i64 r, a.sv], .agg [.int .i64 r2, b.sv]] [a.f encBin 2, b.f encBin 2] (Rv (.bool (decide (r = r2 ∧ a.l = b.l)))) := by
  refine Ct.of Tryz.func55 rfl (n := 17) rfl rfl rfl ?_
  conv => whnf
  repeat' first
    | (refine Ob.mk rfl ?_; conv => whnf)
    | (refine Nx.mk ?_; conv => whnf)
    | (refine BR.yes ?_; conv => whnf)
    | (refine BR.no ?_; conv => whnf)
    | (intro bk; conv => whnf)
    | (show CallK _ _ 89 _ _ _ _; refine CallK.rv (c_eqB a b) (by repeat' (first | exact trivial | exact .head _ | apply List.Mem.tail | apply And.intro)) (Nx.go ?_))
    | (show RdB _ _ _; refine RdB.mk' (by repeat (first | exact .head _ | apply List.Mem.tail)) (Nx.go ?_))
    | (refine AR.i64 (by omega) ?_; conv => whnf)
    | (refine AR.u64 (by omega) ?_; conv => whnf)
    | (refine AR.u8 (by omega) ?_; conv => whnf)
    | (refine Ob.mk (by omega) ?_; conv => whnf)
    | (refine BR.mk (fun h => ?_) (fun h => ?_) <;> (first | rw [Bool.not_eq_true'] at h | rw [Bool.not_eq_false'] at h | skip) <;> (try rw [h]) <;> (first | replace h := of_decide_eq_true h | replace h := of_decide_eq_false h | replace h := eq_of_beq h | replace h := bne_iff_ne.1 h | replace h := beq_eq_false_iff_ne.1 h | replace h := bne_eq_false_iff_eq.1 h | skip) <;> conv => whnf)
  all_goals grind [resS]

theorem c_same (x y : SkV) : Ct Tryz.prog 20 [] [x.sv, y.sv] (x.fs ++ y.fs) (Rv (.bool (decide (x.sk = y.sk)))) := by
  refine Ct.of Tryz.func20 rfl (n := 45) rfl rfl rfl ?_
  conv => whnf
  repeat' first
    | (refine Ob.mk rfl ?_; conv => whnf)
    | (refine Nx.mk ?_; conv => whnf)
    | (refine BR.yes ?_; conv => whnf)
    | (refine BR.no ?_; conv => whnf)
    | (intro bk; conv => whnf)
    | (show CallK _ _ 53 _ _ _ _; refine CallK.rv (c_exactSame x.e y.e) (by repeat' (first | exact trivial | exact .head _ | apply List.Mem.tail | apply And.intro)) (Nx.go ?_))
    | (show CallK _ _ 54 _ _ _ _; refine CallK.rv (c_cmsSame x.rows x.cols y.rows y.cols x.c y.c) (by repeat' (first | exact trivial | exact .head _ | apply List.Mem.tail | apply And.intro)) (Nx.go ?_))
    | (show CallK _ _ 55 _ _ _ _; refine CallK.rv (c_histSame x.fine y.fine x.g y.g) (by repeat' (first | exact trivial | exact .head _ | apply List.Mem.tail | apply And.intro)) (Nx.go ?_))
    | (refine BinS.agg 5 (by kernel_rfl) ?_; conv => whnf)
    | (refine Ob.mk ⟨by kernel_rfl, by kernel_rfl⟩ ?_; conv => whnf)
    | (show RdB _ _ _; refine RdB.mk' (by repeat (first | exact .head _ | apply List.Mem.tail)) (Nx.go ?_))
    | (refine AR.i64 (by omega) ?_; conv => whnf)
    | (refine AR.u64 (by omega) ?_; conv => whnf)
    | (refine AR.u8 (by omega) ?_; conv => whnf)
    | (refine Ob.mk (by omega) ?_; conv => whnf)
    | (refine BR.mk (fun h => ?_) (fun h => ?_) <;> (first | rw [Bool.not_eq_true'] at h | rw [Bool.not_eq_false'] at h | skip) <;> (try rw [h]) <;> (first | replace h := of_decide_eq_true h | replace h := of_decide_eq_false h | replace h := eq_of_beq h | replace h := bne_iff_ne.1 h | replace h := beq_eq_false_iff_ne.1 h | replace h := bne_eq_false_iff_eq.1 h | skip) <;> conv => whnf)
  all_goals (simp only [resS, SV.bool.injEq, SkV.sk, Sk.mk.injEq]; grind)

theorem c_pairsU (x : Sli UInt64) : Ct Tryz.prog 126 [] [x.sv] [x.f encU 1] (Rs (fun b : Nat => .fn 141 [] [.raw (.pointer (some ⟨b, 0, none⟩))]) (fun _ => []) (fun b => [blkF b [x.sv] 22, x.f encU 1]) (fun _ => True)) := by
  refine Ct.post (Ct.of Tryz.func126 rfl (n := 4) rfl rfl rfl ?_)
  conv => whnf
  repeat' first
    | (refine Ob.mk rfl ?_; conv => whnf)
    | (refine Nx.mk ?_; conv => whnf)
    | (intro bk; conv => whnf)
    | (show Post _ _ _ _ _; exact Rs.post bk rfl ((Imp.pubCells 0 rfl).trans (Imp.fs (by repeat' (first | exact trivial | exact .head _ | apply List.Mem.tail | apply And.intro)))) trivial)
    | (refine Ob.mk (by omega) ?_; conv => whnf)

theorem i_pairsU (x : Sli UInt64) (b : Nat) (hl : x.l.length ≤ 9223372036854775807) : It Tryz.prog 141 [] [.raw (.pointer (some ⟨b, 0, none⟩))] [blkF b [x.sv] 22, x.f encU 1] (fixd (pairsU x.l)) (fun _ _ => True) := by
  refine It.of Tryz.func141 rfl (n := 22) rfl rfl rfl (fun lp => ?_)
  conv => whnf
  repeat' first
    | (refine Ob.mk rfl ?_; conv => whnf)
    | (refine Nx.mk ?_; conv => whnf)
    | (refine BR.yes ?_; conv => whnf)
    | (refine BR.no ?_; conv => whnf)
    | (show SemC _ _ _ (.loop (.seq (.seq (.region 1 _ _) _) _)) _ _ _ _ _; refine SemC.loopB (c := (.seq (.seq (.region 1 _ _) _) _)) (fun j : Nat => [(3, .int .i64 (j + 1))]) (fun j => [(0, .seq lp (fixd (pairsU x.l)) (some j))]) (fun j => j ≤ x.l.length - 1) (fun j => x.l.length - j) 0 ?_; (conv => whnf); refine LoopQ.mk ?_ ⟨(by repeat (first | exact trivial | refine ⟨rfl, ?_⟩ | refine ⟨congrArg (Value.int _) (by omega), ?_⟩)), Imp.refl⟩ (fun j hi => ?_))
    | (show Exists _; refine Exists.intro (j + 1) ⟨?_, ?_, rfl, ⟨(by repeat (first | exact trivial | refine ⟨rfl, ?_⟩ | refine ⟨congrArg (Value.int _) (by omega), ?_⟩)), Imp.refl⟩⟩)
    | (refine Idx.is j (by omega) ?_; conv => whnf)
    | (refine Idx.is (j + 1) (by omega) ?_; conv => whnf)
    | (refine Ob.mk ⟨rfl, YdX.fix ?_⟩ ⟨Nx.go ?_, Nx.go ?_⟩)
    | (exact ⟨_, _, rfl, Or.inl rfl, trivial⟩)
    | (refine ⟨_, _, rfl, Or.inr (fixd_end ?_), trivial⟩)
    | (refine SemC.draw 3 [] [.t 0, .t 1, .t 2, .t 3, .t 4, .t 5, .t 6, .t 7, .t 8, .t 9, .l 10, .t 11] (by kernel_rfl) (by kernel_rfl) ?_; conv => whnf)
    | (refine Idx.nat ?_; conv => whnf)
    | (refine Idx.is _ rfl ?_; conv => whnf)
    | (show HasP _ _ _ _ _ _; refine HasP.mk' (by repeat (first | exact .head _ | apply List.Mem.tail)) (Nx.go ?_))
    | (show RdE _ _ _ _ _ _ _; refine RdE.s (by repeat (first | exact .head _ | apply List.Mem.tail)) (by omega) (fun xe hxe => Nx.go ?_))
    | (show RdB _ _ _; refine RdB.mk' (by repeat (first | exact .head _ | apply List.Mem.tail)) (Nx.go ?_))
    | (refine AR.i64 (by omega) ?_; conv => whnf)
    | (refine AR.u64 (by omega) ?_; conv => whnf)
    | (refine AR.u8 (by omega) ?_; conv => whnf)
    | (refine Ob.mk (by omega) ?_; conv => whnf)
    | (refine BR.mk (fun h => ?_) (fun h => ?_) <;> (first | rw [Bool.not_eq_true'] at h | rw [Bool.not_eq_false'] at h | skip) <;> (try rw [h]) <;> (first | replace h := of_decide_eq_true h | replace h := of_decide_eq_false h | replace h := eq_of_beq h | replace h := bne_iff_ne.1 h | replace h := beq_eq_false_iff_ne.1 h | replace h := bne_eq_false_iff_eq.1 h | skip) <;> conv => whnf)
  all_goals first | exact pairsU_at (by assumption) (by assumption) | grind [pairsU_len]

theorem c_exactRight (x : Sli UInt64) : Ct Tryz.prog 107 [] [.agg [x.sv]] [x.f encU 1] (Rv (.bool (exactRight x.l))) := by
  refine Ct.len (enc := encU) (L := x.l) (List.Mem.head _) fun hl => ?_
  refine Ct.of Tryz.func107 rfl (n := 19) rfl rfl rfl ?_
  conv => whnf
  repeat' first
    | (refine Ob.mk rfl ?_; conv => whnf)
    | (refine Nx.mk ?_; conv => whnf)
    | (refine BR.yes ?_; conv => whnf)
    | (refine BR.no ?_; conv => whnf)
    | (intro bk; conv => whnf)
    | (show CallK _ _ 126 _ _ _ _; refine CallK.rf (c_pairsU x) (by repeat' (first | exact trivial | exact .head _ | apply List.Mem.tail | apply And.intro)) (fun b hb => Nx.go ?_))
    | (show SemC _ _ _ (.rangeFunc _ _ (.seq (.region 3 _ _) _) _) _ _ _ _ _; refine SemC.rangeC (σ := Bool) (fun lb x => setCells lb 1 [.bool x]) (fun n y => y = (decide ((x.l.length : Int) ≤ 64) && risesU (x.l.take (n + 1)))) (fun c y => c = .exit 0 ∧ y = false ∧ risesU x.l = false) (pairsU x.l) 2 (i_pairsU x b hl) (decide ((x.l.length : Int) ≤ 64)) ?_ (fun _ => rfl) (fun D r => Imp.to 4 rfl (by repeat' (first | exact trivial | exact .head _ | apply List.Mem.tail | apply And.intro))) (by repeat' (first | exact trivial | exact .head _ | apply List.Mem.tail | apply And.intro)) rfl (fun D rc nr x a hx ha => ?_) (fun D x o hx => ?_) (fun D c x o hx => ?_))
    | (refine Nx1.mk ?_; obtain ⟨u, v, hu, hv, rfl⟩ := pairsU_inv ha; (conv => whnf))
    | (refine Nx2.mk ?_; obtain ⟨rfl, rfl, hs⟩ := hx; (conv => whnf))
    | (show EndS _ _ _ _ _ _ _; refine EndS.mark 2 rfl rfl (fun o => Nx.go ?_))
    | (refine Ob.mk ⟨rfl, rfl⟩ ?_; conv => whnf)
    | (show Exists _; refine Exists.intro (x) ⟨?_, Imp.to 4 rfl (by repeat' (first | exact trivial | exact .head _ | apply List.Mem.tail | apply And.intro))⟩)
    | (show Exists _; refine Exists.intro (false) ⟨?_, Imp.to 4 rfl (by repeat' (first | exact trivial | exact .head _ | apply List.Mem.tail | apply And.intro))⟩)
    | (show RdB _ _ _; refine RdB.mk' (by repeat (first | exact .head _ | apply List.Mem.tail)) (Nx.go ?_))
    | (refine AR.i64 (by omega) ?_; conv => whnf)
    | (refine AR.u64 (by omega) ?_; conv => whnf)
    | (refine AR.u8 (by omega) ?_; conv => whnf)
    | (refine Ob.mk (by omega) ?_; conv => whnf)
    | (refine BR.mk (fun h => ?_) (fun h => ?_) <;> (first | rw [Bool.not_eq_true'] at h | rw [Bool.not_eq_false'] at h | skip) <;> (try rw [h]) <;> (first | replace h := of_decide_eq_true h | replace h := of_decide_eq_false h | replace h := eq_of_beq h | replace h := bne_iff_ne.1 h | replace h := beq_eq_false_iff_ne.1 h | replace h := bne_eq_false_iff_eq.1 h | skip) <;> conv => whnf)
  all_goals try (simp only [resS, SV.bool.injEq, exactRight] at *)
  · simp [risesU_1]
  · have := risesU_snoc hu hv; grind [UInt64.lt_iff_toNat_lt, risesU_take]
  · have := risesU_snoc hu hv; grind [UInt64.lt_iff_toNat_lt]
  · rw [pairsU_len, take_all (by omega)] at hx; rw [hx]; congr 1; exact decide_eq_decide.2 (by omega)
  · grind
end Go.Proofs.YtikjigkkhdkibaaGreatDoor

/- ladder: M2 -/
namespace Go.Proofs.YtikjigkkhdkibaaGreatDoor
open Go.Proofs.YtikjigkkhdkibaaGreatDoor.W
set_option maxRecDepth 100000
set_option linter.unusedVariables false
theorem c_isBits (n : Int) : Ct Tryz.prog 127 [] [.int .i64 n] [] (Rv (.bool (decide (3 ≤ n ∧ n ≤ 8)))) := by
  refine Ct.of Tryz.func127 rfl (n := 9) rfl rfl rfl ?_
  conv => whnf
  repeat' first
    | (refine Ob.mk rfl ?_; conv => whnf)
    | (refine Nx.mk ?_; conv => whnf)
    | (refine BR.yes ?_; conv => whnf)
    | (refine BR.no ?_; conv => whnf)
    | (refine AR.i64 (by omega) ?_; conv => whnf)
    | (refine AR.u64 (by omega) ?_; conv => whnf)
    | (refine AR.u8 (by omega) ?_; conv => whnf)
    | (refine Ob.mk (by omega) ?_; conv => whnf)
    | (refine BR.mk (fun h => ?_) (fun h => ?_) <;> (first | rw [Bool.not_eq_true'] at h | rw [Bool.not_eq_false'] at h | skip) <;> (try rw [h]) <;> (first | replace h := of_decide_eq_true h | replace h := of_decide_eq_false h | replace h := eq_of_beq h | replace h := bne_iff_ne.1 h | replace h := beq_eq_false_iff_ne.1 h | replace h := bne_eq_false_iff_eq.1 h | skip) <;> conv => whnf)
  all_goals grind [resS]

theorem c_most (n : Int) (h : 0 ≤ n ∧ n ≤ 64) : Ct Tryz.prog 128 [] [.int .i64 n] [] (Rv (.int .i64 (65 - n))) := by
  refine Ct.of Tryz.func128 rfl (n := 5) rfl rfl rfl ?_
  conv => whnf
  repeat' first
    | (refine Ob.mk rfl ?_; conv => whnf)
    | (refine Nx.mk ?_; conv => whnf)
    | (refine AR.i64 (by omega) ?_; conv => whnf)
    | (refine AR.u64 (by omega) ?_; conv => whnf)
    | (refine AR.u8 (by omega) ?_; conv => whnf)
    | (refine Ob.mk (by omega) ?_; conv => whnf)
  rfl

theorem c_hllRight (bits : Int) (s : List UInt8) (hs : s.length ≤ 9223372036854775807) : Ct Tryz.prog 108 [] [.agg [.int .i64 bits, .str s]] [] (Rv (.bool (hllRight bits s))) := by
  refine Ct.of Tryz.func108 rfl (n := 35) rfl rfl rfl ?_
  conv => whnf
  repeat' first
    | (refine AR.is (shl1 (by omega)) ?_; conv => whnf)
    | (refine Ob.mk rfl ?_; conv => whnf)
    | (refine Nx.mk ?_; conv => whnf)
    | (refine BR.yes ?_; conv => whnf)
    | (refine BR.no ?_; conv => whnf)
    | (intro bk; conv => whnf)
    | (show CallK _ _ 127 _ _ _ _; refine CallK.rv (c_isBits _) (by repeat' (first | exact trivial | exact .head _ | apply List.Mem.tail | apply And.intro)) (Nx.go ?_))
    | (show CallK _ _ 128 _ _ _ _; refine CallK.rv (c_most _ (by omega)) (by repeat' (first | exact trivial | exact .head _ | apply List.Mem.tail | apply And.intro)) (Nx.go ?_))
    | (show SemC _ _ _ (.loop (.seq (.region 5 _ _) _)) _ _ _ _ _; refine SemC.loopC (c := (.seq (.region 5 _ _) _)) (fun i : Nat => [(21, .int .i64 i), (3, .bool true)]) (fun i => i ≤ s.length ∧ (s.take i).all (fun x => decide ((x.toNat : Int) ≤ 65 - bits)) = true) (fun i => s.length - i) 0 ?_; (conv => whnf); refine LoopQ.mk ?_ ⟨(by repeat (first | exact trivial | refine ⟨rfl, ?_⟩ | refine ⟨congrArg (Value.int _) (by omega), ?_⟩)), Imp.refl⟩ (fun i hi => ?_))
    | (show Exists _; refine Exists.intro (i + 1) ⟨?_, ?_, rfl, ⟨(by repeat (first | exact trivial | refine ⟨rfl, ?_⟩ | refine ⟨congrArg (Value.int _) (by omega), ?_⟩)), Imp.refl⟩⟩)
    | (refine SemC.draw 1 [] [.t 0, .t 1, .l 2, .t 3, .t 4, .t 5, .t 6, .t 7, .t 8, .t 9, .t 10, .t 11, .t 12] (by kernel_rfl) (by kernel_rfl) ?_; conv => whnf)
    | (refine SemC.draw 7 [] [.t 0, .t 1, .t 2, .t 3, .t 4, .t 5, .t 6, .s 7, .t 8] (by kernel_rfl) (by kernel_rfl) ?_; conv => whnf)
    | (refine Idx.nat ?_; conv => whnf)
    | (refine Idx.is _ rfl ?_; conv => whnf)
    | (intro u hu hu2; conv => whnf)
    | (show RdB _ _ _; refine RdB.mk' (by repeat (first | exact .head _ | apply List.Mem.tail)) (Nx.go ?_))
    | (refine AR.i64 (by omega) ?_; conv => whnf)
    | (refine AR.u64 (by omega) ?_; conv => whnf)
    | (refine AR.u8 (by omega) ?_; conv => whnf)
    | (refine Ob.mk (by omega) ?_; conv => whnf)
    | (refine BR.mk (fun h => ?_) (fun h => ?_) <;> (first | rw [Bool.not_eq_true'] at h | rw [Bool.not_eq_false'] at h | skip) <;> (try rw [h]) <;> (first | replace h := of_decide_eq_true h | replace h := of_decide_eq_false h | replace h := eq_of_beq h | replace h := bne_iff_ne.1 h | replace h := beq_eq_false_iff_ne.1 h | replace h := bne_eq_false_iff_eq.1 h | skip) <;> conv => whnf)
  all_goals grind [resS, hllRight, List.take_add_one]

theorem c_pop64 (x : Int) (hx : 0 ≤ x ∧ x ≤ 18446744073709551615) : Ct Tryz.prog 136 [] [.int .u64 x] [] (Rv (.int .i64 (popU x))) := by
  refine Ct.of Tryz.func136 rfl (n := 35) rfl rfl rfl ?_
  conv => whnf
  repeat' first
    | (refine AR.mk ?_; conv => whnf)
    | (refine Ob.mk rfl ?_; conv => whnf)
    | (refine Nx.mk ?_; conv => whnf)
    | (refine AR.i64 (by omega) ?_; conv => whnf)
    | (refine AR.u64 (by omega) ?_; conv => whnf)
    | (refine AR.u8 (by omega) ?_; conv => whnf)
    | (refine Ob.mk (by omega) ?_; conv => whnf)
  rfl

theorem c_pop (x : Int) (hx : 0 ≤ x ∧ x ≤ 18446744073709551615) : Ct Tryz.prog 118 [] [.int .u64 x] [] (Rv (.int .i64 (popU x))) := by
  refine Ct.of Tryz.func118 rfl (n := 8) rfl rfl rfl ?_
  conv => whnf
  repeat' first
    | (refine Ob.mk rfl ?_; conv => whnf)
    | (refine Nx.mk ?_; conv => whnf)
    | (refine BR.yes ?_; conv => whnf)
    | (refine BR.no ?_; conv => whnf)
    | (show CallK _ _ 136 _ _ _ _; refine CallK.rv (c_pop64 x hx) (by repeat' (first | exact trivial | exact .head _ | apply List.Mem.tail | apply And.intro)) (Nx.go ?_))
    | (refine AR.i64 (by omega) ?_; conv => whnf)
    | (refine AR.u64 (by omega) ?_; conv => whnf)
    | (refine AR.u8 (by omega) ?_; conv => whnf)
    | (refine Ob.mk (by omega) ?_; conv => whnf)
    | (refine BR.mk (fun h => ?_) (fun h => ?_) <;> (first | rw [Bool.not_eq_true'] at h | rw [Bool.not_eq_false'] at h | skip) <;> (try rw [h]) <;> (first | replace h := of_decide_eq_true h | replace h := of_decide_eq_false h | replace h := eq_of_beq h | replace h := bne_iff_ne.1 h | replace h := beq_eq_false_iff_ne.1 h | replace h := bne_eq_false_iff_eq.1 h | skip) <;> conv => whnf)
  rfl

theorem c_isSize (r c : Int) : Ct Tryz.prog 93 [] [.int .i64 r, .int .i64 c] [] (Rv (.bool (isSize r c))) := by
  refine Ct.of Tryz.func93 rfl (n := 25) rfl rfl rfl ?_
  conv => whnf
  repeat' first
    | (refine Ob.mk rfl ?_; conv => whnf)
    | (refine Nx.mk ?_; conv => whnf)
    | (refine BR.yes ?_; conv => whnf)
    | (refine BR.no ?_; conv => whnf)
    | (show CallK _ _ 118 _ _ _ _; refine CallK.rv (c_pop c (by omega)) (by repeat' (first | exact trivial | exact .head _ | apply List.Mem.tail | apply And.intro)) (Nx.go ?_))
    | (refine AR.i64 (by omega) ?_; conv => whnf)
    | (refine AR.u64 (by omega) ?_; conv => whnf)
    | (refine AR.u8 (by omega) ?_; conv => whnf)
    | (refine Ob.mk (by omega) ?_; conv => whnf)
    | (refine BR.mk (fun h => ?_) (fun h => ?_) <;> (first | rw [Bool.not_eq_true'] at h | rw [Bool.not_eq_false'] at h | skip) <;> (try rw [h]) <;> (first | replace h := of_decide_eq_true h | replace h := of_decide_eq_false h | replace h := eq_of_beq h | replace h := bne_iff_ne.1 h | replace h := beq_eq_false_iff_ne.1 h | replace h := bne_eq_false_iff_eq.1 h | skip) <;> conv => whnf)
  all_goals (have := @popU_size c; grind [resS, isSize])

theorem c_cmsRight (r c : Int) (l : Sli UInt64) : Ct Tryz.prog 109 [] [.agg [.int .i64 r, .int .i64 c, l.sv]] [l.f encU 1] (Rv (.bool (cmsRight r c l.l))) := by
  refine Ct.of Tryz.func109 rfl (n := 19) rfl rfl rfl ?_
  conv => whnf
  repeat' first
    | (refine AR.i64 (mul_small (isSize_mul (decide_eq_true (by assumption)))) ?_; conv => whnf)
    | (refine Ob.mk rfl ?_; conv => whnf)
    | (refine Nx.mk ?_; conv => whnf)
    | (refine BR.yes ?_; conv => whnf)
    | (refine BR.no ?_; conv => whnf)
    | (intro bk; conv => whnf)
    | (show CallK _ _ 93 _ _ _ _; refine CallK.rv (c_isSize _ _) (by repeat' (first | exact trivial | exact .head _ | apply List.Mem.tail | apply And.intro)) (Nx.go ?_))
    | (show RdB _ _ _; refine RdB.mk' (by repeat (first | exact .head _ | apply List.Mem.tail)) (Nx.go ?_))
    | (refine AR.i64 (by omega) ?_; conv => whnf)
    | (refine AR.u64 (by omega) ?_; conv => whnf)
    | (refine AR.u8 (by omega) ?_; conv => whnf)
    | (refine Ob.mk (by omega) ?_; conv => whnf)
    | (refine BR.mk (fun h => ?_) (fun h => ?_) <;> (first | rw [Bool.not_eq_true'] at h | rw [Bool.not_eq_false'] at h | skip) <;> (try rw [h]) <;> (first | replace h := of_decide_eq_true h | replace h := of_decide_eq_false h | replace h := eq_of_beq h | replace h := bne_iff_ne.1 h | replace h := beq_eq_false_iff_ne.1 h | replace h := bne_eq_false_iff_eq.1 h | skip) <;> conv => whnf)
  all_goals grind [resS, cmsRight, isSize]

theorem c_isFine (n : Int) : Ct Tryz.prog 129 [] [.int .i64 n] [] (Rv (.bool (isFine n))) := by
  refine Ct.of Tryz.func129 rfl (n := 9) rfl rfl rfl ?_
  conv => whnf
  repeat' first
    | (refine Ob.mk rfl ?_; conv => whnf)
    | (refine Nx.mk ?_; conv => whnf)
    | (refine BR.yes ?_; conv => whnf)
    | (refine BR.no ?_; conv => whnf)
    | (refine AR.i64 (by omega) ?_; conv => whnf)
    | (refine AR.u64 (by omega) ?_; conv => whnf)
    | (refine AR.u8 (by omega) ?_; conv => whnf)
    | (refine Ob.mk (by omega) ?_; conv => whnf)
    | (refine BR.mk (fun h => ?_) (fun h => ?_) <;> (first | rw [Bool.not_eq_true'] at h | rw [Bool.not_eq_false'] at h | skip) <;> (try rw [h]) <;> (first | replace h := of_decide_eq_true h | replace h := of_decide_eq_false h | replace h := eq_of_beq h | replace h := bne_iff_ne.1 h | replace h := beq_eq_false_iff_ne.1 h | replace h := bne_eq_false_iff_eq.1 h | skip) <;> conv => whnf)
  all_goals grind [resS, isFine]

theorem c_len64 (x : UInt64) : Ct Tryz.prog 148 [] [.int .u64 x.toNat] [] (Rv (.int .i64 (lenI x.toNat))) := by
  have hx := x.toNat_lt
  refine Ct.of Tryz.func148 rfl (n := 25) rfl rfl rfl ?_
  conv => whnf
  repeat' first
    | (show AR .u8 _ _; simp only [fd32, fd16, fd8] at *; refine AR.u8 (by omega) ?_; conv => whnf)
    | (refine Ob.mk (by show _ < 256; omega) ?_; conv => whnf)
    | (refine Ob.mk rfl ?_; conv => whnf)
    | (refine Nx.mk ?_; conv => whnf)
    | (refine BR.yes ?_; conv => whnf)
    | (refine BR.no ?_; conv => whnf)
    | (refine Idx.nat ?_; conv => whnf)
    | (refine Idx.is _ rfl ?_; conv => whnf)
    | (intro u hu hu2; conv => whnf)
    | (refine AR.i64 (by omega) ?_; conv => whnf)
    | (refine AR.u64 (by omega) ?_; conv => whnf)
    | (refine AR.u8 (by omega) ?_; conv => whnf)
    | (refine Ob.mk (by omega) ?_; conv => whnf)
    | (refine BR.mk (fun h => ?_) (fun h => ?_) <;> (first | rw [Bool.not_eq_true'] at h | rw [Bool.not_eq_false'] at h | skip) <;> (try rw [h]) <;> (first | replace h := of_decide_eq_true h | replace h := of_decide_eq_false h | replace h := eq_of_beq h | replace h := bne_iff_ne.1 h | replace h := beq_eq_false_iff_ne.1 h | replace h := bne_eq_false_iff_eq.1 h | skip) <;> conv => whnf)
  all_goals (replace hu := lenTab_get (show lenTab[_]? = some u from hu); have d32 := @lenI_div x.toNat 32; have d16 := @lenI_div x.toNat 16; have d8 := @lenI_div x.toNat 8; have e16 := @lenI_div (x.toNat / 4294967296) 16; have e8 := @lenI_div (x.toNat / 4294967296) 8; have f8 := @lenI_div (x.toNat / 65536) 8; have g8 := @lenI_div (x.toNat / 4294967296 / 65536) 8; simp only [resS, SV.int.injEq, true_and, Nat.reducePow] at *; omega)

theorem c_shifted (n k : Int) (hk : -1000 ≤ k ∧ k ≤ 1000) : Ct Tryz.prog 142 [] [.int .u64 n, .int .i64 k] [] (Rv (.int .u64 (shiftI n k))) := by
  refine Ct.of Tryz.func142 rfl (n := 14) rfl rfl rfl ?_
  conv => whnf
  repeat' first
    | (show AR _ (0 - _) _; refine AR.mk ?_; conv => whnf)
    | (refine Ob.mk (by rw [IntWalk.i64_in _ (by omega)]; omega) ?_; conv => whnf)
    | (show AR _ (_ * _) _; refine AR.mk ?_; conv => whnf)
    | (refine Ob.mk rfl ?_; conv => whnf)
    | (refine Nx.mk ?_; conv => whnf)
    | (refine BR.yes ?_; conv => whnf)
    | (refine BR.no ?_; conv => whnf)
    | (refine AR.i64 (by omega) ?_; conv => whnf)
    | (refine AR.u64 (by omega) ?_; conv => whnf)
    | (refine AR.u8 (by omega) ?_; conv => whnf)
    | (refine Ob.mk (by omega) ?_; conv => whnf)
    | (refine BR.mk (fun h => ?_) (fun h => ?_) <;> (first | rw [Bool.not_eq_true'] at h | rw [Bool.not_eq_false'] at h | skip) <;> (try rw [h]) <;> (first | replace h := of_decide_eq_true h | replace h := of_decide_eq_false h | replace h := eq_of_beq h | replace h := bne_iff_ne.1 h | replace h := beq_eq_false_iff_ne.1 h | replace h := bne_eq_false_iff_eq.1 h | skip) <;> conv => whnf)
  all_goals grind [resS, shiftI, shrU, shlU]

theorem c_lenI (v : Int) (hv : 0 ≤ v ∧ v ≤ 18446744073709551615) : Ct Tryz.prog 148 [] [.int .u64 v] [] (Rv (.int .i64 (lenI v))) := by
  have h := c_len64 (U v)
  rwa [U_is hv] at h

theorem c_bucket (f v : Int) (hv : 0 ≤ v ∧ v ≤ 18446744073709551615) : Ct Tryz.prog 143 [] [.int .i64 f, .int .u64 v] [] (Rv (.int .i64 (bucket f v))) := by
  refine Ct.of Tryz.func143 rfl (n := 33) rfl rfl rfl ?_
  conv => whnf
  repeat' first
    | (show AR _ _ _; refine AR.mk ?_; conv => whnf)
    | (refine Ob.mk rfl ?_; conv => whnf)
    | (refine Nx.mk ?_; conv => whnf)
    | (refine BR.yes ?_; conv => whnf)
    | (refine BR.no ?_; conv => whnf)
    | (show CallK _ _ 129 _ _ _ _; refine CallK.rv (c_isFine f) (by repeat' (first | exact trivial | exact .head _ | apply List.Mem.tail | apply And.intro)) (Nx.go ?_))
    | (show CallK _ _ 148 _ _ _ _; refine CallK.rv (c_lenI v hv) (by repeat' (first | exact trivial | exact .head _ | apply List.Mem.tail | apply And.intro)) (Nx.go ?_))
    | (show CallK _ _ 142 _ _ _ _; refine CallK.rv (c_shifted _ _ (bucket_sh (by assumption) hv)) (by repeat' (first | exact trivial | exact .head _ | apply List.Mem.tail | apply And.intro)) (Nx.go ?_))
    | (refine SemC.draw 4 [] [.t 0, .t 1, .t 2, .t 3, .t 5, .t 6, .t 7, .s 4, .t 8, .t 9] (by kernel_rfl) (by kernel_rfl) ?_; conv => whnf)
    | (refine AR.i64 (by omega) ?_; conv => whnf)
    | (refine AR.u64 (by omega) ?_; conv => whnf)
    | (refine AR.u8 (by omega) ?_; conv => whnf)
    | (refine Ob.mk (by omega) ?_; conv => whnf)
    | (refine BR.mk (fun h => ?_) (fun h => ?_) <;> (first | rw [Bool.not_eq_true'] at h | rw [Bool.not_eq_false'] at h | skip) <;> (try rw [h]) <;> (first | replace h := of_decide_eq_true h | replace h := of_decide_eq_false h | replace h := eq_of_beq h | replace h := bne_iff_ne.1 h | replace h := beq_eq_false_iff_ne.1 h | replace h := bne_eq_false_iff_eq.1 h | skip) <;> conv => whnf)
  all_goals first | rfl | (show SV.int .i64 _ = SV.int .i64 _; congr 1; simp only [bucket, isFine] at *; simp [*]; done) | (show SV.int .i64 _ = SV.int .i64 (bucket f v); rw [bucket, if_neg (by simp [isFine, *])]; rfl) | trace_state

theorem c_bounds (f a : Int) : Ct Tryz.prog 130 [] [.int .i64 f, .int .i64 a] [] (Rs (fun x : Int × Int => .tup [.int .u64 x.1, .int .u64 x.2, .bool (bOk f a)]) (fun _ => []) (fun _ => []) (fun _ => True)) := by
  refine Ct.post (Ct.of Tryz.func130 rfl (n := 59) rfl rfl rfl ?_)
  conv => whnf
  repeat' first
    | (show AR _ _ _; refine AR.mk ?_; conv => whnf)
    | (refine Ob.mk rfl ?_; conv => whnf)
    | (refine Nx.mk ?_; conv => whnf)
    | (refine BR.yes ?_; conv => whnf)
    | (refine BR.no ?_; conv => whnf)
    | (show CallK _ _ 129 _ _ _ _; refine CallK.rv (c_isFine f) (by repeat' (first | exact trivial | exact .head _ | apply List.Mem.tail | apply And.intro)) (Nx.go ?_))
    | (show CallK _ _ 142 _ _ _ _; refine CallK.rv (c_shifted _ _ (bound_sh (by assumption) ⟨Int.not_lt.1 (by assumption), Int.not_lt.1 (by assumption)⟩)) (by repeat' (first | exact trivial | exact .head _ | apply List.Mem.tail | apply And.intro)) (Nx.go ?_))
    | (show CallK _ _ 143 _ _ _ _; refine CallK.rv (c_bucket f (lowB f a) (shiftI_range (wrapU_range _))) (by repeat' (first | exact trivial | exact .head _ | apply List.Mem.tail | apply And.intro)) (Nx.go ?_))
    | (show SemC _ _ _ (.scope _) _ _ _ _ _; refine SemC.scope (fun i ds env lb Φ => i = 0 ∧ ds = [] ∧ bOk f a = false) (fun i ds env lb Φ h => ?_) ?_)
    | (show ∃ rest, _ ∧ _; obtain ⟨rfl, rfl, hb⟩ := h; refine ⟨_, rfl, ?_⟩; conv => whnf)
    | (show wpC _ _ _ _ _ _ _ _ _; conv => whnf)
    | (show Post _ _ _ _ _; refine Rs.post (_, _) (congrArg SV.den (congrArg SV.tup (congrArg (SV.int .u64 _ :: SV.int .u64 _ :: ·) (congrArg (fun b => [SV.bool b]) ?_)))) (Imp.fs (by repeat' (first | exact trivial | exact .head _ | apply List.Mem.tail | apply And.intro))) trivial)
    | (refine SemC.draw 8 [] [.t 0, .t 1, .t 2, .t 3, .t 4, .t 5, .t 6, .t 7, .t 8, .t 9, .t 10, .l 11, .t 12] (by kernel_rfl) (by kernel_rfl) ?_; conv => whnf)
    | (refine SemC.draw 10 [] [.t 0, .t 1, .t 2, .t 3, .t 4, .t 5, .t 6, .t 7, .t 8] (by kernel_rfl) (by kernel_rfl) ?_; conv => whnf)
    | (refine AR.i64 (by omega) ?_; conv => whnf)
    | (refine AR.u64 (by omega) ?_; conv => whnf)
    | (refine AR.u8 (by omega) ?_; conv => whnf)
    | (refine Ob.mk (by omega) ?_; conv => whnf)
    | (refine BR.mk (fun h => ?_) (fun h => ?_) <;> (first | rw [Bool.not_eq_true'] at h | rw [Bool.not_eq_false'] at h | skip) <;> (try rw [h]) <;> (first | replace h := of_decide_eq_true h | replace h := of_decide_eq_false h | replace h := eq_of_beq h | replace h := bne_iff_ne.1 h | replace h := beq_eq_false_iff_ne.1 h | replace h := bne_eq_false_iff_eq.1 h | skip) <;> conv => whnf)
  all_goals first | exact hb.symm | (refine ⟨rfl, rfl, ?_⟩; grind [bOk, isFine]) | (rw [eq_comm]; simp only [bOk, isFine, Bool.and_eq_true, Bool.or_eq_true, decide_eq_true_eq]; refine ⟨⟨by assumption, Int.not_lt.1 (by assumption), Int.not_lt.1 (by assumption)⟩, ?_⟩; first | exact .inl (.inl (by assumption)) | exact .inl (.inr (by assumption)) | exact .inr (by assumption)) | (rw [eq_comm]; simp only [bOk, Bool.and_eq_false_iff, Bool.or_eq_false_iff, decide_eq_false_iff_not]; exact .inr ⟨⟨by assumption, by assumption⟩, by assumption⟩)

theorem c_histRight (f : Int) (x : Sli Bin) : Ct Tryz.prog 110 [] [.agg [.int .i64 f, x.sv]] [x.f encBin 2] (Rv (.bool (histRight f x.l))) := by
  refine Ct.len (enc := encBin) (L := x.l) (List.Mem.head _) fun hl => ?_
  refine Ct.of Tryz.func110 rfl (n := 50) rfl rfl rfl ?_
  conv => whnf
  repeat' first
    | (refine Ob.mk rfl ?_; conv => whnf)
    | (refine Nx.mk ?_; conv => whnf)
    | (refine BR.yes ?_; conv => whnf)
    | (refine BR.no ?_; conv => whnf)
    | (intro bk; conv => whnf)
    | (show CallK _ _ 129 _ _ _ _; refine CallK.rv (c_isFine f) (by repeat' (first | exact trivial | exact .head _ | apply List.Mem.tail | apply And.intro)) (Nx.go ?_))
    | (show CallK _ _ 130 _ _ _ _; refine CallK.rf (c_bounds _ _) (by repeat' (first | exact trivial | exact .head _ | apply List.Mem.tail | apply And.intro)) (fun r hr => Nx.go ?_))
    | (show SemC _ _ _ (.loop (.seq (.region 3 _ _) _)) _ _ _ _ _; refine SemC.loopC (c := (.seq (.region 3 _ _) _)) (fun y : Nat × Int => [(17, .int .i64 y.1), (4, .int .i64 y.2), (3, .bool (isFine f))]) (fun y => y.1 ≤ x.l.length ∧ hOk f (-1) x.l = hOk f y.2 (x.l.drop y.1)) (fun y => x.l.length - y.1) (0, -1) ?_; (conv => whnf); refine LoopQ.mk ?_ ⟨(by repeat (first | exact trivial | refine ⟨rfl, ?_⟩ | refine ⟨congrArg (Value.int _) (by omega), ?_⟩)), Imp.refl⟩ (fun y hi => ?_))
    | (show Exists _; refine Exists.intro ((y.1 + 1, _)) ⟨?_, ?_, rfl, ⟨(by repeat (first | exact trivial | refine ⟨rfl, ?_⟩ | refine ⟨congrArg (Value.int _) (by omega), ?_⟩)), Imp.to 1 rfl (by repeat' (first | exact trivial | exact .head _ | apply List.Mem.tail | apply And.intro))⟩⟩)
    | (refine BinS.agg 5 (by kernel_rfl) ?_; conv => whnf)
    | (refine Ob.mk ⟨by kernel_rfl, by kernel_rfl⟩ ?_; conv => whnf)
    | (refine Idx.nat ?_; conv => whnf)
    | (refine Idx.is _ rfl ?_; conv => whnf)
    | (show HasP _ _ _ _ _ _; refine HasP.mk' (by repeat (first | exact .head _ | apply List.Mem.tail)) (Nx.go ?_))
    | (show RdE _ _ _ _ _ _ _; refine RdE.s (by repeat (first | exact .head _ | apply List.Mem.tail)) (by omega) (fun xe hxe => Nx.go ?_))
    | (show RdB _ _ _; refine RdB.mk' (by repeat (first | exact .head _ | apply List.Mem.tail)) (Nx.go ?_))
    | (refine AR.i64 (by omega) ?_; conv => whnf)
    | (refine AR.u64 (by omega) ?_; conv => whnf)
    | (refine AR.u8 (by omega) ?_; conv => whnf)
    | (refine Ob.mk (by omega) ?_; conv => whnf)
    | (refine BR.mk (fun h => ?_) (fun h => ?_) <;> (first | rw [Bool.not_eq_true'] at h | rw [Bool.not_eq_false'] at h | skip) <;> (try rw [h]) <;> (first | replace h := of_decide_eq_true h | replace h := of_decide_eq_false h | replace h := eq_of_beq h | replace h := bne_iff_ne.1 h | replace h := beq_eq_false_iff_ne.1 h | replace h := bne_eq_false_iff_eq.1 h | skip) <;> conv => whnf)
  · exact ⟨Nat.zero_le _, rfl⟩
  all_goals try have hdr := drop_cons hxe
  all_goals first | grind [resS, histRight, hOk, u64_zero] | (rw [drop_all (by omega)] at hi; simp [resS, histRight, hi.2, hOk])
end Go.Proofs.YtikjigkkhdkibaaGreatDoor

/- ladder: M3 -/
namespace Go.Proofs.YtikjigkkhdkibaaGreatDoor
open Go.Proofs.YtikjigkkhdkibaaGreatDoor.W
set_option maxRecDepth 100000
set_option linter.unusedVariables false
theorem Imp.nilF {α : Type} {P : Program} {lb : LBs} {Φ : Facts} (enc : α → List SV) (k : Nat) : Imp P lb Φ lb ((Sli.mk ([] : List α) none 0).f enc k :: Φ) :=
  Imp.fact fun _ _ _ => ⟨by simp, rfl, ⟨by simp [flat], Nat.le_refl _, Nat.zero_le _, fun _ => rfl, .inl rfl⟩⟩
theorem ct_imp {P : Program} {f : FuncId} {bs : LBs} {args : List SV} {Φ : Facts} {R R' : SV → LBs → Facts → Prop} (h : Ct P f bs args Φ R) (hR : ∀ v lb Φ, R v lb Φ → R' v lb Φ) : Ct P f bs args Φ R' :=
  ⟨fun M A w hr => (h.h M A w hr).mono fun _ _ ⟨r, bs', Ψ, hv, h1, h2⟩ => ⟨r, bs', Ψ, hv, hR _ _ _ h1, h2⟩⟩
theorem ct_facts {P : Program} {f : FuncId} {bs : LBs} {args : List SV} {Φ Φ0 : Facts} {R : SV → LBs → Facts → Prop} (h : Ct P f bs args Φ R) (hi : ∀ A w, Hold Φ0 A w → Hold Φ A w) : Ct P f bs args Φ0 R :=
  ⟨fun M A w hr => h.h M A w ⟨hr.st, hi _ _ hr.hold, hr.mu, hr.muM, hr.amb⟩⟩
abbrev nilU : Sli UInt64 := ⟨[], none, 0⟩
abbrev nilB : Sli Bin := ⟨[], none, 0⟩
abbrev sk0 : SkV := ⟨0, 0, nilU, 0, [], 0, 0, nilU, 0, nilB⟩

/-- a kind's greatest level -/
def botI (k : Int) : Int := if k = 1 then 4 else if k = 2 then 3 else if k = 3 then 3 else -1

theorem c_bot (k : Int) : Ct Tryz.prog 21 [] [.int .i64 k] [] (Rv (.int .i64 (botI k))) := by
  refine Ct.of Tryz.func21 rfl (n := 15) rfl rfl rfl ?_
  conv => whnf
  repeat' first
    | (show SemO _ _ (.makeMap _ _) _ _ _ _ _; refine SemO.makeMap (κ := Int) (Value.int .i64) ?_; conv => whnf)
    | (show SemO _ _ (.insert _ _ _ _) _ _ _ _ _; refine SemO.insert (κ := Int) ?_ _ (Or.inl rfl); (conv => whnf); refine ⟨inferInstance, KeyLaw.int rfl, KeyIs.int (Ob.mk ⟨rfl, rfl⟩ ?_)⟩; intro L1 hL1; subst hL1; conv => whnf)
    | (show SemO _ _ (.lookup _ _ _ _) _ _ _ _ _; refine SemO.lookup ?_; (conv => whnf); refine ⟨inferInstance, KeyLaw.int rfl, KeyIs.int (Ob.mk rfl ?_)⟩; conv => whnf)
    | (refine Ob.mk rfl ?_; conv => whnf)
    | (refine Nx.mk ?_; conv => whnf)
    | (refine BR.yes ?_; conv => whnf)
    | (refine BR.no ?_; conv => whnf)
    | (intro bk; conv => whnf)
    | (refine AR.i64 (by omega) ?_; conv => whnf)
    | (refine AR.u64 (by omega) ?_; conv => whnf)
    | (refine AR.u8 (by omega) ?_; conv => whnf)
    | (refine Ob.mk (by omega) ?_; conv => whnf)
    | (refine BR.mk (fun h => ?_) (fun h => ?_) <;> (first | rw [Bool.not_eq_true'] at h | rw [Bool.not_eq_false'] at h | skip) <;> (try rw [h]) <;> (first | replace h := of_decide_eq_true h | replace h := of_decide_eq_false h | replace h := eq_of_beq h | replace h := bne_iff_ne.1 h | replace h := beq_eq_false_iff_ne.1 h | replace h := bne_eq_false_iff_eq.1 h | skip) <;> conv => whnf)
  all_goals grind [resS, botI]

theorem c_cloneU (x : Sli UInt64) (hx : x.l.length ≤ 1000000) : Ct Tryz.prog 111 [] [x.sv] [x.f encU 1] (Rs (fun y : Sli UInt64 => y.sv) (fun _ => []) (fun y => [y.f encU 1]) (fun y => y.l = x.l)) := by
  refine Ct.pure (p := x.p = none → x.l = []) (List.Mem.head _) (fun A w h hp => by have h1 := h.2.2.isNil hp; have h2 := h.2.2.cap; exact List.eq_nil_of_length_eq_zero (by omega)) fun hnil => ?_
  refine Ct.post (Ct.of Tryz.func111 rfl (n := 8) rfl rfl rfl ?_)
  conv => whnf
  repeat' first
    | (show BinS _ _ _ _ _ _ (.raw (.slice none 0 0)) _; refine BinS.slNil rfl ?_; conv => whnf)
    | (show SemO _ _ (.buildSlice _ _ #[]) _ _ _ _ _; refine SemO.lit0 encU ?_; (conv => whnf); intro p0; conv => whnf)
    | (show SemO _ _ (.call ⟨.builtin .append, _, _⟩) _ _ _ _ _; refine SemO.appendNew false ?_; (conv => whnf); show AppN _ _ _ _ _ _ _ _ _ _ _ _ _; refine ⟨⟨_, _, [], x.l, .fact (by repeat (first | exact .head _ | apply List.Mem.tail)), .fact (by repeat (first | exact .head _ | apply List.Mem.tail)), app_le (N := 1048576) ?_ (of_decide_eq_true (by kernel_rfl)), ?_, rfl, fun pv cv hcv => ?_⟩⟩ <;> first | (show (0 : Nat) + x.l.length ≤ _; omega) | (have e0 : 0 + x.l.length = x.l.length := Nat.zero_add _; rw [e0] at hcv; rw [e0]; conv => whnf))
    | (refine Ob.mk rfl ?_; conv => whnf)
    | (refine Nx.mk ?_; conv => whnf)
    | (refine BR.yes ?_; conv => whnf)
    | (refine BR.no ?_; conv => whnf)
    | (intro bk; conv => whnf)
    | (show Post _ _ _ _ _; have e := hnil (Option.isNone_iff_eq_none.1 h); exact Rs.post ⟨[], none, 0⟩ rfl ((Imp.nilF encU 1).trans (Imp.fs (by repeat' (first | exact trivial | exact .head _ | apply List.Mem.tail | apply And.intro)))) e.symm)
    | (show Post _ _ _ _ _; exact Rs.post ⟨x.l, pv, cv⟩ rfl (Imp.fs (by repeat' (first | exact trivial | exact .head _ | apply List.Mem.tail | apply And.intro))) rfl)
    | (refine AR.i64 (by omega) ?_; conv => whnf)
    | (refine AR.u64 (by omega) ?_; conv => whnf)
    | (refine AR.u8 (by omega) ?_; conv => whnf)
    | (refine Ob.mk (by omega) ?_; conv => whnf)
    | (refine BR.mk (fun h => ?_) (fun h => ?_) <;> (first | rw [Bool.not_eq_true'] at h | rw [Bool.not_eq_false'] at h | skip) <;> (try rw [h]) <;> (first | replace h := of_decide_eq_true h | replace h := of_decide_eq_false h | replace h := eq_of_beq h | replace h := bne_iff_ne.1 h | replace h := beq_eq_false_iff_ne.1 h | replace h := bne_eq_false_iff_eq.1 h | skip) <;> conv => whnf)

theorem c_cloneB (x : Sli Bin) (hx : x.l.length ≤ 1000000) : Ct Tryz.prog 112 [] [x.sv] [x.f encBin 2] (Rs (fun y : Sli Bin => y.sv) (fun _ => []) (fun y => [y.f encBin 2]) (fun y => y.l = x.l)) := by
  refine Ct.pure (p := x.p = none → x.l = []) (List.Mem.head _) (fun A w h hp => by have h1 := h.2.2.isNil hp; have h2 := h.2.2.cap; exact List.eq_nil_of_length_eq_zero (by omega)) fun hnil => ?_
  refine Ct.post (Ct.of Tryz.func112 rfl (n := 8) rfl rfl rfl ?_)
  conv => whnf
  repeat' first
    | (show BinS _ _ _ _ _ _ (.raw (.slice none 0 0)) _; refine BinS.slNil rfl ?_; conv => whnf)
    | (show SemO _ _ (.buildSlice _ _ #[]) _ _ _ _ _; refine SemO.lit0 encBin ?_; (conv => whnf); intro p0; conv => whnf)
    | (show SemO _ _ (.call ⟨.builtin .append, _, _⟩) _ _ _ _ _; refine SemO.appendNew false ?_; (conv => whnf); show AppN _ _ _ _ _ _ _ _ _ _ _ _ _; refine ⟨⟨_, _, [], x.l, .fact (by repeat (first | exact .head _ | apply List.Mem.tail)), .fact (by repeat (first | exact .head _ | apply List.Mem.tail)), app_le (N := 1048576) ?_ (of_decide_eq_true (by kernel_rfl)), ?_, rfl, fun pv cv hcv => ?_⟩⟩ <;> first | (show (0 : Nat) + x.l.length ≤ _; omega) | (have e0 : 0 + x.l.length = x.l.length := Nat.zero_add _; rw [e0] at hcv; rw [e0]; conv => whnf))
    | (refine Ob.mk rfl ?_; conv => whnf)
    | (refine Nx.mk ?_; conv => whnf)
    | (refine BR.yes ?_; conv => whnf)
    | (refine BR.no ?_; conv => whnf)
    | (intro bk; conv => whnf)
    | (show Post _ _ _ _ _; have e := hnil (Option.isNone_iff_eq_none.1 h); exact Rs.post ⟨[], none, 0⟩ rfl ((Imp.nilF encBin 2).trans (Imp.fs (by repeat' (first | exact trivial | exact .head _ | apply List.Mem.tail | apply And.intro)))) e.symm)
    | (show Post _ _ _ _ _; exact Rs.post ⟨x.l, pv, cv⟩ rfl (Imp.fs (by repeat' (first | exact trivial | exact .head _ | apply List.Mem.tail | apply And.intro))) rfl)
    | (refine AR.i64 (by omega) ?_; conv => whnf)
    | (refine AR.u64 (by omega) ?_; conv => whnf)
    | (refine AR.u8 (by omega) ?_; conv => whnf)
    | (refine Ob.mk (by omega) ?_; conv => whnf)
    | (refine BR.mk (fun h => ?_) (fun h => ?_) <;> (first | rw [Bool.not_eq_true'] at h | rw [Bool.not_eq_false'] at h | skip) <;> (try rw [h]) <;> (first | replace h := of_decide_eq_true h | replace h := of_decide_eq_false h | replace h := eq_of_beq h | replace h := bne_iff_ne.1 h | replace h := beq_eq_false_iff_ne.1 h | replace h := bne_eq_false_iff_eq.1 h | skip) <;> conv => whnf)

theorem c_wset (h0 : SV) (k0 l0 : Int) (x : SkV) (h : x.level = 0) : Ct Tryz.prog 75 [] [.agg [h0, .int .i64 k0, .int .i64 l0], x.sv] x.fs (Rv (.tup [.iface 169 (.agg [x.e.sv]), .bool (exactRight x.e.l)])) := by
  refine Ct.of Tryz.func75 rfl (n := 32) rfl rfl rfl ?_
  conv => whnf
  repeat' first
    | (show BR (decide (x.level = 0)) _ _; refine BR.yesK (decide_eq_true h) ?_; conv => whnf)
    | (refine Ob.mk rfl ?_; conv => whnf)
    | (refine Nx.mk ?_; conv => whnf)
    | (refine BR.yes ?_; conv => whnf)
    | (refine BR.no ?_; conv => whnf)
    | (intro bk; conv => whnf)
    | (show CallK _ _ 107 _ _ _ _; refine CallK.rv (c_exactRight x.e) (by repeat' (first | exact trivial | exact .head _ | apply List.Mem.tail | apply And.intro)) (Nx.go ?_))
    | (refine SemC.draw 2 [] [.t 0, .t 1, .t 2, .t 3, .t 4, .t 5, .s 6, .t 7, .t 8] (by kernel_rfl) (by kernel_rfl) ?_; conv => whnf)
    | (refine SemC.draw 3 [] [.t 0, .t 1, .t 2, .t 3, .t 4, .t 5, .s 6, .t 7, .t 8, .t 9, .t 10, .t 11, .t 12, .t 13, .t 14, .t 15, .t 16, .t 17] (by kernel_rfl) (by kernel_rfl) ?_; conv => whnf)
    | (show RdB _ _ _; refine RdB.mk' (by repeat (first | exact .head _ | apply List.Mem.tail)) (Nx.go ?_))
    | (refine AR.i64 (by omega) ?_; conv => whnf)
    | (refine AR.u64 (by omega) ?_; conv => whnf)
    | (refine AR.u8 (by omega) ?_; conv => whnf)
    | (refine Ob.mk (by omega) ?_; conv => whnf)
    | (refine BR.mk (fun h => ?_) (fun h => ?_) <;> (first | rw [Bool.not_eq_true'] at h | rw [Bool.not_eq_false'] at h | skip) <;> (try rw [h]) <;> (first | replace h := of_decide_eq_true h | replace h := of_decide_eq_false h | replace h := eq_of_beq h | replace h := bne_iff_ne.1 h | replace h := beq_eq_false_iff_ne.1 h | replace h := bne_eq_false_iff_eq.1 h | skip) <;> conv => whnf)
  all_goals grind [resS]

theorem c_wreg (h0 : SV) (k0 l0 : Int) (x : SkV) (h : ¬ x.level = 0) (hl : 0 ≤ x.level ∧ x.level ≤ 10) (hr : x.regs.length ≤ 9223372036854775807) : Ct Tryz.prog 75 [] [.agg [h0, .int .i64 k0, .int .i64 l0], x.sv] x.fs (Rv (.tup [.iface 171 (.agg [.int .i64 x.bits, .str x.regs]), .bool (hllRight x.bits x.regs && decide (x.bits = 8 - x.level))])) := by
  refine Ct.of Tryz.func75 rfl (n := 32) rfl rfl rfl ?_
  conv => whnf
  repeat' first
    | (show BR (decide (x.level = 0)) _ _; refine BR.noK (decide_eq_false h) ?_; conv => whnf)
    | (refine Ob.mk rfl ?_; conv => whnf)
    | (refine Nx.mk ?_; conv => whnf)
    | (refine BR.yes ?_; conv => whnf)
    | (refine BR.no ?_; conv => whnf)
    | (intro bk; conv => whnf)
    | (show CallK _ _ 108 _ _ _ _; refine CallK.rv (c_hllRight x.bits x.regs hr) (by repeat' (first | exact trivial | exact .head _ | apply List.Mem.tail | apply And.intro)) (Nx.go ?_))
    | (refine SemC.draw 2 [] [.t 0, .t 1, .t 2, .t 3, .t 4, .t 5, .s 6, .t 7, .t 8] (by kernel_rfl) (by kernel_rfl) ?_; conv => whnf)
    | (refine SemC.draw 3 [] [.t 0, .t 1, .t 2, .t 3, .t 4, .t 5, .s 6, .t 7, .t 8, .t 9, .t 10, .t 11, .t 12, .t 13, .t 14, .t 15, .t 16, .t 17] (by kernel_rfl) (by kernel_rfl) ?_; conv => whnf)
    | (show RdB _ _ _; refine RdB.mk' (by repeat (first | exact .head _ | apply List.Mem.tail)) (Nx.go ?_))
    | (refine AR.i64 (by omega) ?_; conv => whnf)
    | (refine AR.u64 (by omega) ?_; conv => whnf)
    | (refine AR.u8 (by omega) ?_; conv => whnf)
    | (refine Ob.mk (by omega) ?_; conv => whnf)
    | (refine BR.mk (fun h => ?_) (fun h => ?_) <;> (first | rw [Bool.not_eq_true'] at h | rw [Bool.not_eq_false'] at h | skip) <;> (try rw [h]) <;> (first | replace h := of_decide_eq_true h | replace h := of_decide_eq_false h | replace h := eq_of_beq h | replace h := bne_iff_ne.1 h | replace h := beq_eq_false_iff_ne.1 h | replace h := bne_eq_false_iff_eq.1 h | skip) <;> conv => whnf)
  all_goals grind [resS]

theorem c_wcnt (h0 : SV) (k0 l0 : Int) (x : SkV) (hl : 0 ≤ x.level ∧ x.level ≤ 10) : Ct Tryz.prog 76 [] [.agg [h0, .int .i64 k0, .int .i64 l0], x.sv] x.fs (Rv (.tup [.iface 173 (.agg [.int .i64 x.rows, .int .i64 x.cols, x.c.sv]), .bool (cmsRight x.rows x.cols x.c.l && decide (x.rows = 2) && decide (x.cols = (Int.fdiv 32 (2 ^ min x.level.toNat IntKind.i64.bits))))])) := by
  refine Ct.of Tryz.func76 rfl (n := 28) rfl rfl rfl ?_
  conv => whnf
  repeat' first
    | (refine Ob.mk rfl ?_; conv => whnf)
    | (refine Nx.mk ?_; conv => whnf)
    | (refine BR.yes ?_; conv => whnf)
    | (refine BR.no ?_; conv => whnf)
    | (intro bk; conv => whnf)
    | (show CallK _ _ 109 _ _ _ _; refine CallK.rv (c_cmsRight x.rows x.cols x.c) (by repeat' (first | exact trivial | exact .head _ | apply List.Mem.tail | apply And.intro)) (Nx.go ?_))
    | (refine SemC.draw 1 [] [.t 0, .t 1, .t 2, .t 3, .t 4, .t 5, .s 6, .t 7, .t 8, .t 9, .t 10, .t 11, .t 12, .t 13, .t 14, .t 15, .t 16, .t 17, .t 18, .t 19, .t 20, .t 21, .t 22, .t 23] (by kernel_rfl) (by kernel_rfl) ?_; conv => whnf)
    | (show RdB _ _ _; refine RdB.mk' (by repeat (first | exact .head _ | apply List.Mem.tail)) (Nx.go ?_))
    | (refine AR.i64 (by omega) ?_; conv => whnf)
    | (refine AR.u64 (by omega) ?_; conv => whnf)
    | (refine AR.u8 (by omega) ?_; conv => whnf)
    | (refine Ob.mk (by omega) ?_; conv => whnf)
    | (refine BR.mk (fun h => ?_) (fun h => ?_) <;> (first | rw [Bool.not_eq_true'] at h | rw [Bool.not_eq_false'] at h | skip) <;> (try rw [h]) <;> (first | replace h := of_decide_eq_true h | replace h := of_decide_eq_false h | replace h := eq_of_beq h | replace h := bne_iff_ne.1 h | replace h := beq_eq_false_iff_ne.1 h | replace h := bne_eq_false_iff_eq.1 h | skip) <;> conv => whnf)
  all_goals grind [resS]

theorem c_wval (h0 : SV) (k0 l0 : Int) (x : SkV) (hl : 0 ≤ x.level ∧ x.level ≤ 10) (hg : x.g.l.length ≤ 1000000) : Ct Tryz.prog 77 [] [.agg [h0, .int .i64 k0, .int .i64 l0], x.sv] x.fs (Rv (.tup [.iface 175 (.agg [.int .i64 x.fine, x.g.sv]), .bool (histRight x.fine x.g.l && decide (x.fine = 3 - x.level))])) := by
  refine Ct.of Tryz.func77 rfl (n := 22) rfl rfl rfl ?_
  conv => whnf
  repeat' first
    | (refine Ob.mk rfl ?_; conv => whnf)
    | (refine Nx.mk ?_; conv => whnf)
    | (refine BR.yes ?_; conv => whnf)
    | (refine BR.no ?_; conv => whnf)
    | (intro bk; conv => whnf)
    | (show CallK _ _ 110 _ _ _ _; refine CallK.rv (c_histRight x.fine x.g) (by repeat' (first | exact trivial | exact .head _ | apply List.Mem.tail | apply And.intro)) (Nx.go ?_))
    | (refine SemC.draw 1 [] [.t 0, .t 1, .t 2, .t 3, .t 4, .t 5, .s 6, .t 7, .t 8, .t 9, .t 10, .t 11, .t 12, .t 13, .t 14, .t 15, .t 16, .t 17] (by kernel_rfl) (by kernel_rfl) ?_; conv => whnf)
    | (show RdB _ _ _; refine RdB.mk' (by repeat (first | exact .head _ | apply List.Mem.tail)) (Nx.go ?_))
    | (refine AR.i64 (by omega) ?_; conv => whnf)
    | (refine AR.u64 (by omega) ?_; conv => whnf)
    | (refine AR.u8 (by omega) ?_; conv => whnf)
    | (refine Ob.mk (by omega) ?_; conv => whnf)
    | (refine BR.mk (fun h => ?_) (fun h => ?_) <;> (first | rw [Bool.not_eq_true'] at h | rw [Bool.not_eq_false'] at h | skip) <;> (try rw [h]) <;> (first | replace h := of_decide_eq_true h | replace h := of_decide_eq_false h | replace h := eq_of_beq h | replace h := bne_iff_ne.1 h | replace h := beq_eq_false_iff_ne.1 h | replace h := bne_eq_false_iff_eq.1 h | skip) <;> conv => whnf)
  all_goals grind [resS]

theorem c_endS (x : Sli UInt64) (hx : x.l.length ≤ 1000000) (k l : Int) : Ct Tryz.prog 78 [] [.agg [.iface 169 (.agg [x.sv]), .int .i64 k, .int .i64 l]] [x.f encU 1] (Rs SkV.sv (fun _ => []) SkV.fs (fun z => z.sk = ⟨k, l, x.l, 0, [], 0, 0, [], 0, []⟩)) := by
  refine Ct.post (Ct.of Tryz.func78 rfl (n := 63) rfl rfl rfl ?_)
  conv => whnf
  repeat' first
    | (refine Ob.mk rfl ?_; conv => whnf)
    | (refine Nx.mk ?_; conv => whnf)
    | (refine BR.yes ?_; conv => whnf)
    | (refine BR.no ?_; conv => whnf)
    | (intro bk; conv => whnf)
    | (show CallK _ _ 111 _ _ _ _; refine CallK.rf (c_cloneU x hx) (by repeat' (first | exact trivial | exact .head _ | apply List.Mem.tail | apply And.intro)) (fun y hy => Nx.go ?_))
    | (show Post _ _ _ _ _; exact Rs.post ⟨k, l, y, 0, [], 0, 0, nilU, 0, nilB⟩ rfl ((Imp.nilF encU 1).trans ((Imp.nilF encBin 2).trans ((Imp.pure (p := ([] : List UInt8).length ≤ 9223372036854775807) (by decide)).trans ((Imp.fs (by repeat' (first | exact trivial | exact .head _ | apply List.Mem.tail | apply And.intro))))))) (by rw [SkV.sk, hy]))
    | (refine SemC.draw 8 [2] [.t 0, .t 1, .m 2, .m 3, .m 4, .m 5, .t 6, .w 7, .t 8, .l 9] (by kernel_rfl) (by kernel_rfl) ?_; conv => whnf)
    | (refine SemC.draw 11 [] [.t 0, .t 1, .t 2, .t 3, .t 4, .t 5, .t 6, .t 7, .t 8, .s 9, .t 10, .t 11, .l 12] (by kernel_rfl) (by kernel_rfl) ?_; conv => whnf)
    | (refine SemC.draw 14 [] [.t 0, .t 1, .t 2, .t 3, .t 4, .t 5, .s 6, .t 7, .t 8, .l 9] (by kernel_rfl) (by kernel_rfl) ?_; conv => whnf)
    | (show RdB _ _ _; refine RdB.mk' (by repeat (first | exact .head _ | apply List.Mem.tail)) (Nx.go ?_))
    | (refine AR.i64 (by omega) ?_; conv => whnf)
    | (refine AR.u64 (by omega) ?_; conv => whnf)
    | (refine AR.u8 (by omega) ?_; conv => whnf)
    | (refine Ob.mk (by omega) ?_; conv => whnf)
    | (refine BR.mk (fun h => ?_) (fun h => ?_) <;> (first | rw [Bool.not_eq_true'] at h | rw [Bool.not_eq_false'] at h | skip) <;> (try rw [h]) <;> (first | replace h := of_decide_eq_true h | replace h := of_decide_eq_false h | replace h := eq_of_beq h | replace h := bne_iff_ne.1 h | replace h := beq_eq_false_iff_ne.1 h | replace h := bne_eq_false_iff_eq.1 h | skip) <;> conv => whnf)

theorem c_endR (bi : Int) (rg : List UInt8) (hb : 0 ≤ bi ∧ bi ≤ 64) (hr : rg.length ≤ 9223372036854775807) (k l : Int) : Ct Tryz.prog 78 [] [.agg [.iface 171 (.agg [.int .i64 bi, .str rg]), .int .i64 k, .int .i64 l]] [] (Rs SkV.sv (fun _ => []) SkV.fs (fun z => z.sk = ⟨k, 8 - bi, [], bi, rg, 0, 0, [], 0, []⟩)) := by
  refine Ct.post (Ct.of Tryz.func78 rfl (n := 63) rfl rfl rfl ?_)
  conv => whnf
  repeat' first
    | (refine Ob.mk rfl ?_; conv => whnf)
    | (refine Nx.mk ?_; conv => whnf)
    | (refine BR.yes ?_; conv => whnf)
    | (refine BR.no ?_; conv => whnf)
    | (intro bk; conv => whnf)
    | (show Post _ _ _ _ _; exact Rs.post ⟨k, 8 - bi, nilU, bi, rg, 0, 0, nilU, 0, nilB⟩ rfl ((Imp.nilF encU 1).trans ((Imp.nilF encBin 2).trans ((Imp.pure (p := (rg : List UInt8).length ≤ 9223372036854775807) hr).trans ((Imp.fs (by repeat' (first | exact trivial | exact .head _ | apply List.Mem.tail | apply And.intro))))))) rfl)
    | (refine SemC.draw 8 [2] [.t 0, .t 1, .m 2, .m 3, .m 4, .m 5, .t 6, .w 7, .t 8, .l 9] (by kernel_rfl) (by kernel_rfl) ?_; conv => whnf)
    | (refine SemC.draw 11 [] [.t 0, .t 1, .t 2, .t 3, .t 4, .t 5, .t 6, .t 7, .t 8, .s 9, .t 10, .t 11, .l 12] (by kernel_rfl) (by kernel_rfl) ?_; conv => whnf)
    | (refine SemC.draw 14 [] [.t 0, .t 1, .t 2, .t 3, .t 4, .t 5, .s 6, .t 7, .t 8, .l 9] (by kernel_rfl) (by kernel_rfl) ?_; conv => whnf)
    | (show RdB _ _ _; refine RdB.mk' (by repeat (first | exact .head _ | apply List.Mem.tail)) (Nx.go ?_))
    | (refine AR.i64 (by omega) ?_; conv => whnf)
    | (refine AR.u64 (by omega) ?_; conv => whnf)
    | (refine AR.u8 (by omega) ?_; conv => whnf)
    | (refine Ob.mk (by omega) ?_; conv => whnf)
    | (refine BR.mk (fun h => ?_) (fun h => ?_) <;> (first | rw [Bool.not_eq_true'] at h | rw [Bool.not_eq_false'] at h | skip) <;> (try rw [h]) <;> (first | replace h := of_decide_eq_true h | replace h := of_decide_eq_false h | replace h := eq_of_beq h | replace h := bne_iff_ne.1 h | replace h := beq_eq_false_iff_ne.1 h | replace h := bne_eq_false_iff_eq.1 h | skip) <;> conv => whnf)

theorem c_endC (r c : Int) (x : Sli UInt64) (hx : x.l.length ≤ 1000000) (k l : Int) : Ct Tryz.prog 78 [] [.agg [.iface 173 (.agg [.int .i64 r, .int .i64 c, x.sv]), .int .i64 k, .int .i64 l]] [x.f encU 1] (Rs SkV.sv (fun _ => []) SkV.fs (fun z => z.sk = ⟨k, l, [], 0, [], r, c, x.l, 0, []⟩)) := by
  refine Ct.post (Ct.of Tryz.func78 rfl (n := 63) rfl rfl rfl ?_)
  conv => whnf
  repeat' first
    | (refine Ob.mk rfl ?_; conv => whnf)
    | (refine Nx.mk ?_; conv => whnf)
    | (refine BR.yes ?_; conv => whnf)
    | (refine BR.no ?_; conv => whnf)
    | (intro bk; conv => whnf)
    | (show CallK _ _ 111 _ _ _ _; refine CallK.rf (c_cloneU x hx) (by repeat' (first | exact trivial | exact .head _ | apply List.Mem.tail | apply And.intro)) (fun y hy => Nx.go ?_))
    | (show Post _ _ _ _ _; exact Rs.post ⟨k, l, nilU, 0, [], r, c, y, 0, nilB⟩ rfl ((Imp.nilF encU 1).trans ((Imp.nilF encBin 2).trans ((Imp.pure (p := ([] : List UInt8).length ≤ 9223372036854775807) (by decide)).trans ((Imp.fs (by repeat' (first | exact trivial | exact .head _ | apply List.Mem.tail | apply And.intro))))))) (by rw [SkV.sk, hy]))
    | (refine SemC.draw 8 [2] [.t 0, .t 1, .m 2, .m 3, .m 4, .m 5, .t 6, .w 7, .t 8, .l 9] (by kernel_rfl) (by kernel_rfl) ?_; conv => whnf)
    | (refine SemC.draw 11 [] [.t 0, .t 1, .t 2, .t 3, .t 4, .t 5, .t 6, .t 7, .t 8, .s 9, .t 10, .t 11, .l 12] (by kernel_rfl) (by kernel_rfl) ?_; conv => whnf)
    | (refine SemC.draw 14 [] [.t 0, .t 1, .t 2, .t 3, .t 4, .t 5, .s 6, .t 7, .t 8, .l 9] (by kernel_rfl) (by kernel_rfl) ?_; conv => whnf)
    | (show RdB _ _ _; refine RdB.mk' (by repeat (first | exact .head _ | apply List.Mem.tail)) (Nx.go ?_))
    | (refine AR.i64 (by omega) ?_; conv => whnf)
    | (refine AR.u64 (by omega) ?_; conv => whnf)
    | (refine AR.u8 (by omega) ?_; conv => whnf)
    | (refine Ob.mk (by omega) ?_; conv => whnf)
    | (refine BR.mk (fun h => ?_) (fun h => ?_) <;> (first | rw [Bool.not_eq_true'] at h | rw [Bool.not_eq_false'] at h | skip) <;> (try rw [h]) <;> (first | replace h := of_decide_eq_true h | replace h := of_decide_eq_false h | replace h := eq_of_beq h | replace h := bne_iff_ne.1 h | replace h := beq_eq_false_iff_ne.1 h | replace h := bne_eq_false_iff_eq.1 h | skip) <;> conv => whnf)

theorem c_endH (f : Int) (x : Sli Bin) (hx : x.l.length ≤ 1000000) (k l : Int) : Ct Tryz.prog 78 [] [.agg [.iface 175 (.agg [.int .i64 f, x.sv]), .int .i64 k, .int .i64 l]] [x.f encBin 2] (Rs SkV.sv (fun _ => []) SkV.fs (fun z => z.sk = ⟨k, l, [], 0, [], 0, 0, [], f, x.l⟩)) := by
  refine Ct.post (Ct.of Tryz.func78 rfl (n := 63) rfl rfl rfl ?_)
  conv => whnf
  repeat' first
    | (refine Ob.mk rfl ?_; conv => whnf)
    | (refine Nx.mk ?_; conv => whnf)
    | (refine BR.yes ?_; conv => whnf)
    | (refine BR.no ?_; conv => whnf)
    | (intro bk; conv => whnf)
    | (show CallK _ _ 112 _ _ _ _; refine CallK.rf (c_cloneB x hx) (by repeat' (first | exact trivial | exact .head _ | apply List.Mem.tail | apply And.intro)) (fun y hy => Nx.go ?_))
    | (show Post _ _ _ _ _; exact Rs.post ⟨k, l, nilU, 0, [], 0, 0, nilU, f, y⟩ rfl ((Imp.nilF encU 1).trans ((Imp.pure (p := ([] : List UInt8).length ≤ 9223372036854775807) (by decide)).trans ((Imp.fs (by repeat' (first | exact trivial | exact .head _ | apply List.Mem.tail | apply And.intro)))))) (by rw [SkV.sk, hy]))
    | (refine SemC.draw 8 [2] [.t 0, .t 1, .m 2, .m 3, .m 4, .m 5, .t 6, .w 7, .t 8, .l 9] (by kernel_rfl) (by kernel_rfl) ?_; conv => whnf)
    | (refine SemC.draw 11 [] [.t 0, .t 1, .t 2, .t 3, .t 4, .t 5, .t 6, .t 7, .t 8, .s 9, .t 10, .t 11, .l 12] (by kernel_rfl) (by kernel_rfl) ?_; conv => whnf)
    | (refine SemC.draw 14 [] [.t 0, .t 1, .t 2, .t 3, .t 4, .t 5, .s 6, .t 7, .t 8, .l 9] (by kernel_rfl) (by kernel_rfl) ?_; conv => whnf)
    | (show RdB _ _ _; refine RdB.mk' (by repeat (first | exact .head _ | apply List.Mem.tail)) (Nx.go ?_))
    | (refine AR.i64 (by omega) ?_; conv => whnf)
    | (refine AR.u64 (by omega) ?_; conv => whnf)
    | (refine AR.u8 (by omega) ?_; conv => whnf)
    | (refine Ob.mk (by omega) ?_; conv => whnf)
    | (refine BR.mk (fun h => ?_) (fun h => ?_) <;> (first | rw [Bool.not_eq_true'] at h | rw [Bool.not_eq_false'] at h | skip) <;> (try rw [h]) <;> (first | replace h := of_decide_eq_true h | replace h := of_decide_eq_false h | replace h := eq_of_beq h | replace h := bne_iff_ne.1 h | replace h := beq_eq_false_iff_ne.1 h | replace h := bne_eq_false_iff_eq.1 h | skip) <;> conv => whnf)
end Go.Proofs.YtikjigkkhdkibaaGreatDoor

/- ladder: M4 -/
namespace Go.Proofs.YtikjigkkhdkibaaGreatDoor
open Go.Proofs.YtikjigkkhdkibaaGreatDoor.W
set_option maxRecDepth 100000
set_option linter.unusedVariables false
/-- the sketch that is taken of what one holds -/
def endS (x : Sk) : Sk := if x.kind = 1 then (if x.level = 0 then ⟨x.kind, x.level, x.e, 0, [], 0, 0, [], 0, []⟩ else ⟨x.kind, 8 - x.bits, [], x.bits, x.regs, 0, 0, [], 0, []⟩)
  else if x.kind = 2 then ⟨x.kind, x.level, [], 0, [], x.rows, x.cols, x.c, 0, []⟩ else ⟨x.kind, x.level, [], 0, [], 0, 0, [], x.fine, x.g⟩
def okS (x : Sk) : Bool := if x.kind = 1 then (if x.level = 0 then exactRight x.e else hllRight x.bits x.regs && decide (x.bits = 8 - x.level))
  else if x.kind = 2 then cmsRight x.rows x.cols x.c && decide (x.rows = 2) && decide (x.cols = (Int.fdiv 32 (2 ^ min x.level.toNat IntKind.i64.bits))) else histRight x.fine x.g && decide (x.fine = 3 - x.level)
/-- is a sketch right? -/
def rightS (x : Sk) : Bool := decide (x.kind = 1 ∨ x.kind = 2 ∨ x.kind = 3) && decide (0 ≤ x.level ∧ x.level ≤ botI x.kind) && okS x && decide (endS x = x)
def heldV (x : SkV) : SV := if x.kind = 1 then (if x.level = 0 then .iface 169 (.agg [x.e.sv]) else .iface 171 (.agg [.int .i64 x.bits, .str x.regs])) else if x.kind = 2 then .iface 173 (.agg [.int .i64 x.rows, .int .i64 x.cols, x.c.sv]) else .iface 175 (.agg [.int .i64 x.fine, x.g.sv])
def stV (x : SkV) : SV := match rightS x.sk with
  | true => .tup [.agg [heldV x, .int .i64 x.kind, .int .i64 x.level], .raw .nilIface]
  | false => .tup [.agg [.raw .nilIface, .int .i64 0, .int .i64 0], .iface 79 (.agg [.int .i64 100])]
theorem botI_le (k : Int) : botI k ≤ 4 := by unfold botI; split <;> (try split) <;> (try split) <;> omega
theorem hllRight_bits {b : Int} {s : List UInt8} (h : hllRight b s = true) : 0 ≤ b ∧ b ≤ 64 := by
  simp only [hllRight, Bool.and_eq_true, decide_eq_true_eq] at h; omega

theorem c_start (x : SkV) (he : x.e.l.length ≤ 1000000) (hc : x.c.l.length ≤ 1000000) (hg : x.g.l.length ≤ 1000000) (hr : x.regs.length ≤ 9223372036854775807) : Ct Tryz.prog 42 [] [x.sv] x.fs (Rs (fun _ : Unit => stV x) (fun _ => []) (fun _ => []) (fun _ => True)) := by
  refine Ct.post (Ct.of Tryz.func42 rfl (n := 59) rfl rfl rfl ?_)
  conv => whnf
  repeat' first
    | (show SemO _ _ (.makeMap _ _) _ _ _ _ _; refine SemO.makeMap (κ := Int) (Value.int .i64) ?_; conv => whnf)
    | (show SemO _ _ (.insert _ _ _ _) _ _ _ _ _; refine SemO.insert (κ := Int) ?_ _ (Or.inl rfl); (conv => whnf); refine ⟨inferInstance, KeyLaw.int rfl, KeyIs.int (Ob.mk ⟨rfl, rfl⟩ ?_)⟩; intro L1 hL1; subst hL1; conv => whnf)
    | (show SemO _ _ (.lookup _ _ _ _) _ _ _ _ _; refine SemO.lookup ?_; (conv => whnf); refine ⟨inferInstance, KeyLaw.int rfl, KeyIs.int (Ob.mk rfl ?_)⟩; conv => whnf)
    | (refine Ob.mk rfl ?_; conv => whnf)
    | (refine Nx.mk ?_; conv => whnf)
    | (refine BR.yes ?_; conv => whnf)
    | (refine BR.no ?_; conv => whnf)
    | (intro bk; conv => whnf)
    | (show CallK _ _ 21 _ _ _ _; refine CallK.rv (c_bot x.kind) (by repeat' (first | exact trivial | exact .head _ | apply List.Mem.tail | apply And.intro)) (Nx.go ?_))
    | (show CallK _ _ 75 _ _ _ _; refine CallK.rv (c_wset _ _ _ x hz) (by repeat' (first | exact trivial | exact .head _ | apply List.Mem.tail | apply And.intro)) (Nx.go ?_))
    | (show CallK _ _ 75 _ _ _ _; refine CallK.rv (c_wreg _ _ _ x hz (by have := botI_le x.kind; omega) hr) (by repeat' (first | exact trivial | exact .head _ | apply List.Mem.tail | apply And.intro)) (Nx.go ?_))
    | (show CallK _ _ 76 _ _ _ _; refine CallK.rv (c_wcnt _ _ _ x (by have := botI_le x.kind; omega)) (by repeat' (first | exact trivial | exact .head _ | apply List.Mem.tail | apply And.intro)) (Nx.go ?_))
    | (show CallK _ _ 77 _ _ _ _; refine CallK.rv (c_wval _ _ _ x (by have := botI_le x.kind; omega) hg) (by repeat' (first | exact trivial | exact .head _ | apply List.Mem.tail | apply And.intro)) (Nx.go ?_))
    | (show CallK _ _ 78 _ _ _ _; refine CallK.rf (c_endS x.e he _ _) (by repeat' (first | exact trivial | exact .head _ | apply List.Mem.tail | apply And.intro)) (fun z hz2 => Nx.go ?_))
    | (show CallK _ _ 78 _ _ _ _; refine CallK.rf (c_endR x.bits x.regs (hllRight_bits (Bool.and_eq_true_iff.1 h).1) hr _ _) (by repeat' (first | exact trivial | exact .head _ | apply List.Mem.tail | apply And.intro)) (fun z hz2 => Nx.go ?_))
    | (show CallK _ _ 78 _ _ _ _; refine CallK.rf (c_endC x.rows x.cols x.c hc _ _) (by repeat' (first | exact trivial | exact .head _ | apply List.Mem.tail | apply And.intro)) (fun z hz2 => Nx.go ?_))
    | (show CallK _ _ 78 _ _ _ _; refine CallK.rf (c_endH x.fine x.g hg _ _) (by repeat' (first | exact trivial | exact .head _ | apply List.Mem.tail | apply And.intro)) (fun z hz2 => Nx.go ?_))
    | (show CallK _ _ 20 _ _ _ _; refine CallK.rv (c_same z x) (by repeat' (first | exact trivial | exact .head _ | apply List.Mem.tail | apply And.intro)) (Nx.go ?_))
    | (show CallK _ _ 75 _ _ _ _; by_cases hz : x.level = 0)
    | (show Post _ _ _ _ _; refine Rs.post () ?_ (Imp.fs (by repeat' (first | exact trivial | exact .head _ | apply List.Mem.tail | apply And.intro))) trivial)
    | (refine SemC.draw 3 [] [.t 0, .t 1, .t 2, .t 3, .t 4, .t 5, .t 6, .t 7, .t 8, .t 9, .t 10, .t 11, .s 12, .t 13, .t 14] (by kernel_rfl) (by kernel_rfl) ?_; conv => whnf)
    | (refine SemC.draw 6 [] [.t 0, .t 1, .t 2, .t 3, .t 5, .s 4, .l 6, .t 7, .t 8] (by kernel_rfl) (by kernel_rfl) ?_; conv => whnf)
    | (show RdB _ _ _; refine RdB.mk' (by repeat (first | exact .head _ | apply List.Mem.tail)) (Nx.go ?_))
    | (refine AR.i64 (by omega) ?_; conv => whnf)
    | (refine AR.u64 (by omega) ?_; conv => whnf)
    | (refine AR.u8 (by omega) ?_; conv => whnf)
    | (refine Ob.mk (by omega) ?_; conv => whnf)
    | (refine BR.mk (fun h => ?_) (fun h => ?_) <;> (first | rw [Bool.not_eq_true'] at h | rw [Bool.not_eq_false'] at h | skip) <;> (try rw [h]) <;> (first | replace h := of_decide_eq_true h | replace h := of_decide_eq_false h | replace h := eq_of_beq h | replace h := bne_iff_ne.1 h | replace h := beq_eq_false_iff_ne.1 h | replace h := bne_eq_false_iff_eq.1 h | skip) <;> conv => whnf)
  all_goals (try (have hr' : rightS x.sk = false := (by grind [rightS, okS, endS, SkV.sk]); simp only [stV, hr']; rfl))
  all_goals (have hr' : rightS x.sk = true := (by grind [rightS, okS, endS, SkV.sk, botI]); simp only [stV, heldV, *, if_true, if_false]; rfl)

theorem c_startT (x : SkV) (v : SV) (he : x.e.l.length ≤ 1000000) (hc : x.c.l.length ≤ 1000000) (hg : x.g.l.length ≤ 1000000) (hr : x.regs.length ≤ 9223372036854775807) (h : rightS x.sk = true) (hv : heldV x = v) : Ct Tryz.prog 42 [] [x.sv] x.fs (Rv (.tup [.agg [v, .int .i64 x.kind, .int .i64 x.level], .raw .nilIface])) := by
  subst hv
  refine ct_imp (c_start x he hc hg hr) ?_
  rintro v lb Φ ⟨_, rfl, rfl, rfl, _⟩
  show stV x = _
  rw [stV, h]
theorem c_startF (x : SkV) (he : x.e.l.length ≤ 1000000) (hc : x.c.l.length ≤ 1000000) (hg : x.g.l.length ≤ 1000000) (hr : x.regs.length ≤ 9223372036854775807) (h : rightS x.sk = false) : Ct Tryz.prog 42 [] [x.sv] x.fs (Rv (.tup [.agg [.raw .nilIface, .int .i64 0, .int .i64 0], .iface 79 (.agg [.int .i64 100])])) := by
  refine ct_imp (c_start x he hc hg hr) ?_
  rintro v lb Φ ⟨_, rfl, rfl, rfl, _⟩
  show stV x = _
  rw [stV, h]
theorem heldV_iface (x : SkV) : ∃ T l, heldV x = .iface T (.agg l) := by
  unfold heldV
  split
  · split <;> exact ⟨_, _, rfl⟩
  · split <;> exact ⟨_, _, rfl⟩

theorem c_right (x : SkV) (he : x.e.l.length ≤ 1000000) (hc : x.c.l.length ≤ 1000000) (hg : x.g.l.length ≤ 1000000) (hr : x.regs.length ≤ 9223372036854775807) : Ct Tryz.prog 29 [] [x.sv] x.fs (Rv (.bool (rightS x.sk))) := by
  refine Ct.of Tryz.func29 rfl (n := 12) rfl rfl rfl ?_
  conv => whnf
  repeat' first
    | (refine Ob.mk rfl ?_; conv => whnf)
    | (refine Nx.mk ?_; conv => whnf)
    | (intro bk; conv => whnf)
    | (show CallK _ _ 42 _ _ _ _; refine CallK.rv (c_startF x he hc hg hr h0) (by repeat' (first | exact trivial | exact .head _ | apply List.Mem.tail | apply And.intro)) (Nx.go ?_))
    | (show CallK _ _ 42 _ _ _ _; refine CallK.rv (c_startT x _ he hc hg hr h0 hv) (by repeat' (first | exact trivial | exact .head _ | apply List.Mem.tail | apply And.intro)) (Nx.go ?_))
    | (show CallK _ _ 42 _ _ _ _; rcases h0 : rightS x.sk; rotate_left; obtain ⟨T, l, hv⟩ := heldV_iface x)
    | (show RdB _ _ _; refine RdB.mk' (by repeat (first | exact .head _ | apply List.Mem.tail)) (Nx.go ?_))
    | (refine AR.i64 (by omega) ?_; conv => whnf)
    | (refine AR.u64 (by omega) ?_; conv => whnf)
    | (refine AR.u8 (by omega) ?_; conv => whnf)
    | (refine Ob.mk (by omega) ?_; conv => whnf)
  all_goals rfl
end Go.Proofs.YtikjigkkhdkibaaGreatDoor

/- ladder: M5 -/
namespace Go.Proofs.YtikjigkkhdkibaaGreatDoor
open Go.Proofs.YtikjigkkhdkibaaGreatDoor.W
set_option maxRecDepth 100000
set_option linter.unusedVariables false
theorem ltU_int (a b : UInt64) : decide ((a.toNat : Int) < b.toNat) = decide (a < b) := decide_eq_decide.2 (by rw [UInt64.lt_iff_toNat_lt]; omega)
structure BsI where
  i : Nat
  j : Nat
/-- a place in a rising list -/
structure AtU (l : List UInt64) (n : UInt64) (k : Nat) : Prop where
  le : k ≤ l.length
  lt : ∀ i a, i < k → l[i]? = some a → a < n
  ge : ∀ a, l[k]? = some a → ¬ a < n
theorem rises_le {l : List UInt64} (h : risesU l = true) : ∀ {i j : Nat} {a b : UInt64}, i ≤ j → l[i]? = some a → l[j]? = some b → a ≤ b := by
  induction l with
  | nil => intro i j a b _ h1; simp at h1
  | cons c l ih =>
    intro i j a b hij h1 h2
    match i, j with
    | 0, 0 => rw [h1] at h2; cases h2; exact UInt64.le_refl _
    | 0, j + 1 =>
      have h3 : b ∈ l := List.mem_of_getElem? (by simpa using h2)
      have h4 : c = a := by simpa using h1
      subst h4
      exact UInt64.le_of_lt (risesU_all h b h3)
    | i + 1, 0 => omega
    | i + 1, j + 1 => exact ih (risesU_cons.1 h).2 (i := i) (j := j) (by omega) (by simpa using h1) (by simpa using h2)
theorem bs_up {l : List UInt64} {n x : UInt64} {h : Nat} (hr : risesU l = true) (hx : l[h]? = some x) (hlt : x < n) (k : Nat) (a : UInt64) (hk : k < h + 1) (ha : l[k]? = some a) : a < n :=
  UInt64.lt_of_le_of_lt (rises_le hr (by omega) ha hx) hlt
theorem bs_down {l : List UInt64} {n x : UInt64} {h : Nat} (hr : risesU l = true) (hx : l[h]? = some x) (hlt : ¬ x < n) (k : Nat) (a : UInt64) (hk : h ≤ k) (ha : l[k]? = some a) : ¬ a < n := fun h1 =>
  hlt (UInt64.lt_of_le_of_lt (rises_le hr hk hx ha) h1)
theorem half_ar {i j : Nat} (h : i + j ≤ 4000000) : IntKind.i64.wrap (((i : Int) + j).fdiv (2 ^ min (Int.toNat 1) IntKind.u64.bits)) = (((i + j) / 2 : Nat) : Int) := by
  have e : ((i : Int) + j).fdiv (2 ^ min (Int.toNat 1) IntKind.u64.bits) = (((i + j) / 2 : Nat) : Int) := by
    rw [show (2 : Int) ^ min (Int.toNat 1) IntKind.u64.bits = 2 from rfl, Int.fdiv_eq_ediv_of_nonneg _ (by omega)]; omega
  rw [e]
  exact IntWalk.i64_in _ (by omega)
def BsInv (l : List UInt64) (n : UInt64) (y : BsI) : Prop := y.i ≤ y.j ∧ y.j ≤ l.length ∧ (∀ k a, k < y.i → l[k]? = some a → a < n) ∧ (∀ k a, y.j ≤ k → l[k]? = some a → ¬ a < n)
theorem BsInv.at_ {l : List UInt64} {n : UInt64} {y : BsI} (h : BsInv l n y) (h1 : ¬ (y.i : Int) < y.j) : AtU l n y.i := ⟨by have := h.1; have := h.2.1; omega, h.2.2.1, fun a ha => h.2.2.2 _ a (by omega) ha⟩
theorem BsInv.start (l : List UInt64) (n : UInt64) : BsInv l n ⟨0, l.length⟩ := ⟨Nat.zero_le _, Nat.le_refl _, fun k a h => absurd h (Nat.not_lt_zero k), fun k a h1 h2 => absurd (List.getElem?_eq_some_iff.1 h2).1 (Nat.not_lt.2 h1)⟩
theorem BsInv.up {l : List UInt64} {n x : UInt64} {y : BsI} (h : BsInv l n y) (hr : risesU l = true) (h1 : (y.i : Int) < y.j) (hx : l[(y.i + y.j) / 2]? = some x) (hlt : x < n) : BsInv l n ⟨(y.i + y.j) / 2 + 1, y.j⟩ := ⟨by show (y.i + y.j) / 2 + 1 ≤ y.j; omega, h.2.1, fun k a hk ha => bs_up hr hx hlt k a hk ha, h.2.2.2⟩
theorem BsInv.down {l : List UInt64} {n x : UInt64} {y : BsI} (h : BsInv l n y) (hr : risesU l = true) (h1 : (y.i : Int) < y.j) (hx : l[(y.i + y.j) / 2]? = some x) (hlt : ¬ x < n) : BsInv l n ⟨y.i, (y.i + y.j) / 2⟩ := ⟨by show y.i ≤ (y.i + y.j) / 2; omega, by have := h.2.1; show (y.i + y.j) / 2 ≤ _; omega, h.2.2.1, fun k a hk ha => bs_down hr hx hlt k a hk ha⟩

theorem c_nanU (n : UInt64) : Ct Tryz.prog 207 [] [.int .u64 n.toNat] [] (Rv (.bool false)) := by
  refine Ct.of Tryz.func207 rfl (n := 6) rfl rfl rfl ?_
  conv => whnf
  repeat' first
    | (refine Ob.mk rfl ?_; conv => whnf)
    | (refine Nx.mk ?_; conv => whnf)
    | (refine AR.i64 (by omega) ?_; conv => whnf)
    | (refine AR.u64 (by omega) ?_; conv => whnf)
    | (refine AR.u8 (by omega) ?_; conv => whnf)
    | (refine Ob.mk (by omega) ?_; conv => whnf)
  all_goals simp [resS]

theorem c_nanS (n : UInt64) : Ct Tryz.prog 206 [] [.int .u64 n.toNat] [] (Rv (.bool false)) := by
  refine Ct.of Tryz.func206 rfl (n := 6) rfl rfl rfl ?_
  conv => whnf
  repeat' first
    | (refine Ob.mk rfl ?_; conv => whnf)
    | (refine Nx.mk ?_; conv => whnf)
    | (refine AR.i64 (by omega) ?_; conv => whnf)
    | (refine AR.u64 (by omega) ?_; conv => whnf)
    | (refine AR.u8 (by omega) ?_; conv => whnf)
    | (refine Ob.mk (by omega) ?_; conv => whnf)
  all_goals simp [resS]

theorem c_lessU (a b : UInt64) : Ct Tryz.prog 205 [] [.int .u64 a.toNat, .int .u64 b.toNat] [] (Rv (.bool (decide (a < b)))) := by
  refine Ct.of Tryz.func205 rfl (n := 17) rfl rfl rfl ?_
  conv => whnf
  repeat' first
    | (refine Ob.mk rfl ?_; conv => whnf)
    | (refine Nx.mk ?_; conv => whnf)
    | (refine BR.yes ?_; conv => whnf)
    | (refine BR.no ?_; conv => whnf)
    | (show CallK _ _ 207 _ _ _ _; refine CallK.rv (c_nanU _) (by repeat' (first | exact trivial | exact .head _ | apply List.Mem.tail | apply And.intro)) (Nx.go ?_))
    | (refine AR.i64 (by omega) ?_; conv => whnf)
    | (refine AR.u64 (by omega) ?_; conv => whnf)
    | (refine AR.u8 (by omega) ?_; conv => whnf)
    | (refine Ob.mk (by omega) ?_; conv => whnf)
    | (refine BR.mk (fun h => ?_) (fun h => ?_) <;> (first | rw [Bool.not_eq_true'] at h | rw [Bool.not_eq_false'] at h | skip) <;> (try rw [h]) <;> (first | replace h := of_decide_eq_true h | replace h := of_decide_eq_false h | replace h := eq_of_beq h | replace h := bne_iff_ne.1 h | replace h := beq_eq_false_iff_ne.1 h | replace h := bne_eq_false_iff_eq.1 h | skip) <;> conv => whnf)
  all_goals (simp only [resS, ltU_int])

theorem c_bs (x : Sli UInt64) (n : UInt64) (hr : risesU x.l = true) (hx : x.l.length ≤ 1000000) : Ct Tryz.prog 203 [] [x.sv, .int .u64 n.toNat] [x.f encU 1] (Rs (fun k : Nat => .tup [.int .i64 k, .bool (decide (x.l[k]? = some n))]) (fun _ => []) (fun _ => []) (AtU x.l n)) := by
  refine Ct.post (Ct.of Tryz.func203 rfl (n := 54) rfl rfl rfl ?_)
  conv => whnf
  repeat' first
    | (refine AR.is (half_ar (by have h8 := hi.1; have h9 := hi.2.1; omega)) ?_; conv => whnf)
    | (show AR .i64 (_ + _) _; refine AR.i64 (by have h8 := hi.1; have h9 := hi.2.1; omega) ?_; conv => whnf)
    | (refine Ob.mk rfl ?_; conv => whnf)
    | (refine Nx.mk ?_; conv => whnf)
    | (refine BR.yes ?_; conv => whnf)
    | (refine BR.no ?_; conv => whnf)
    | (show CallK _ _ 205 _ _ _ _; refine CallK.rv (c_lessU xe n) (by repeat' (first | exact trivial | exact .head _ | apply List.Mem.tail | apply And.intro)) (Nx.go ?_))
    | (show CallK _ _ 206 _ _ _ _; refine CallK.rv (c_nanS _) (by repeat' (first | exact trivial | exact .head _ | apply List.Mem.tail | apply And.intro)) (Nx.go ?_))
    | (show SemC _ _ _ (.loop (.seq (.seq (.region 3 _ _) _) _)) _ _ _ _ _; refine SemC.loopC (c := (.seq (.seq (.region 3 _ _) _) _)) (fun y : BsI => [(7, .int .i64 y.i), (8, .int .i64 y.j)]) (fun y => BsInv x.l n y) (fun y => y.j - y.i) ⟨0, x.l.length⟩ ?_; (conv => whnf); refine LoopQ.mk ?_ ⟨(by repeat (first | exact trivial | refine ⟨rfl, ?_⟩ | refine ⟨congrArg (Value.int _) (by omega), ?_⟩)), Imp.refl⟩ (fun y hi => ?_))
    | (have hlt : xe < n := h; show Exists _; refine Exists.intro (⟨(y.i + y.j) / 2 + 1, y.j⟩) ⟨?_, ?_, rfl, ⟨(by repeat (first | exact trivial | refine ⟨rfl, ?_⟩ | refine ⟨congrArg (Value.int _) (by omega), ?_⟩)), Imp.refl⟩⟩)
    | (have hlt : ¬ xe < n := h; show Exists _; refine Exists.intro (⟨y.i, (y.i + y.j) / 2⟩) ⟨?_, ?_, rfl, ⟨(by repeat (first | exact trivial | refine ⟨rfl, ?_⟩ | refine ⟨congrArg (Value.int _) (by omega), ?_⟩)), Imp.refl⟩⟩)
    | (show Post _ _ _ _ _; refine Rs.post y.i ?_ (Imp.fs (by repeat' (first | exact trivial | exact .head _ | apply List.Mem.tail | apply And.intro))) ?_)
    | (refine Idx.nat ?_; conv => whnf)
    | (refine Idx.is _ rfl ?_; conv => whnf)
    | (show HasP _ _ _ _ _ _; refine HasP.mk' (by repeat (first | exact .head _ | apply List.Mem.tail)) (Nx.go ?_))
    | (show RdE _ _ _ _ _ _ _; refine RdE.s (by repeat (first | exact .head _ | apply List.Mem.tail)) (by first | omega | (have h8 := hi.1; have h9 := hi.2.1; omega)) (fun xe hxe => Nx.go ?_))
    | (show RdB _ _ _; refine RdB.mk' (by repeat (first | exact .head _ | apply List.Mem.tail)) (Nx.go ?_))
    | (refine AR.i64 (by first | omega | (have h8 := hi.1; have h9 := hi.2.1; omega)) ?_; conv => whnf)
    | (refine AR.u64 (by first | omega | (have h8 := hi.1; have h9 := hi.2.1; omega)) ?_; conv => whnf)
    | (refine AR.u8 (by first | omega | (have h8 := hi.1; have h9 := hi.2.1; omega)) ?_; conv => whnf)
    | (refine Ob.mk (by first | omega | (have h8 := hi.1; have h9 := hi.2.1; omega)) ?_; conv => whnf)
    | (refine BR.mk (fun h => ?_) (fun h => ?_) <;> (first | rw [Bool.not_eq_true'] at h | rw [Bool.not_eq_false'] at h | skip) <;> (try rw [h]) <;> (first | replace h := of_decide_eq_true h | replace h := of_decide_eq_false h | replace h := eq_of_beq h | replace h := bne_iff_ne.1 h | replace h := beq_eq_false_iff_ne.1 h | replace h := bne_eq_false_iff_eq.1 h | skip) <;> conv => whnf)
  · exact BsInv.start _ _
  all_goals (try (exact hi.at_ (by assumption)))
  · exact hi.up hr (by assumption) hxe h
  · have h9 := hi.1; show y.j - ((y.i + y.j) / 2 + 1) < y.j - y.i; omega
  · exact hi.down hr (by assumption) hxe h
  · have h9 := hi.1; show (y.i + y.j) / 2 - y.i < y.j - y.i; omega
  · rw [decide_eq_true (by rw [hxe]; exact congrArg some (UInt64.toNat_inj.1 (by omega)))]; rfl
  · rw [decide_eq_false (by grind)]; rfl
  · rw [decide_eq_false (fun e => by have := (List.getElem?_eq_some_iff.1 e).1; omega)]; rfl
end Go.Proofs.YtikjigkkhdkibaaGreatDoor
