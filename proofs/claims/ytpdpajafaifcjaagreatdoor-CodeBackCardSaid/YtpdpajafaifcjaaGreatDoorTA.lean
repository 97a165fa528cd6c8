/- YtpdpajafaifcjaaGreatDoorTA: a part of the proof of the given statement CodeBackCardSaid; no condition beyond the statement. -/
import Derived.Test.YtpdpajafaifcjaaGreatDoorWB
import Derived.Test.YtpdpajafaifcjaaGreatDoorProg
set_option linter.unusedVariables false
/- base -/
namespace Go.Proofs.YtpdpajafaifcjaaGreatDoor
open Go.Proofs.YtpdpajafaifcjaaGreatDoor.W
set_option maxRecDepth 100000
set_option linter.unusedVariables false
theorem c_eqU (a b : Sli UInt64) : Ct Tryz.prog 37 [] [a.sv, b.sv] [a.f encU 1, b.f encU 1] (Rv (.bool (decide (a.l = b.l)))) := by
  refine Ct.len (enc := encU) (L := a.l) (List.Mem.head _) fun ha => ?_
  refine Ct.of Tryz.func37 rfl (n := 26) rfl rfl rfl ?_
  conv => whnf
  repeat' first
    | (refine Ob.mk rfl ?_; conv => whnf)
    | (refine Nx.mk ?_; conv => whnf)
    | (refine BR.yes ?_; conv => whnf)
    | (refine BR.no ?_; conv => whnf)
    | (show SemC _ _ _ (.loop (.seq (.region 4 _ _) _)) _ _ _ _ _; refine SemC.loopC (c := (.seq (.region 4 _ _) _)) (fun i : Nat => [(13, .int .i64 i)]) (fun i => i ≤ a.l.length ∧ a.l.length = b.l.length ∧ a.l.take i = b.l.take i) (fun i => a.l.length - i) 0 ?_; (conv => whnf); refine LoopQ.mk ?_ ⟨(by repeat (first | exact trivial | refine ⟨rfl, ?_⟩ | refine ⟨congrArg (Value.int _) (by omega), ?_⟩)), Imp.refl⟩ (fun i hi => ?_))
    | (show Exists _; refine Exists.intro (i + 1) ⟨?_, ?_, rfl, ⟨(by repeat (first | exact trivial | refine ⟨rfl, ?_⟩ | refine ⟨congrArg (Value.int _) (by omega), ?_⟩)), Imp.refl⟩⟩)
    | (refine SemC.draw 6 [] [.t 0, .t 1, .t 2, .t 3, .t 4, .t 5, .t 6, .t 7, .t 8] (by kernel_rfl) (by kernel_rfl) ?_; conv => whnf)
    | (refine Idx.nat ?_; conv => whnf)
    | (refine Idx.is _ rfl ?_; conv => whnf)
    | (show HasP _ _ _ _ _ _; refine HasP.mk' (by repeat (first | exact .head _ | apply List.Mem.tail)) (Nx.go ?_))
    | (show RdE _ _ _ _ _ _ _; refine RdE.s (by repeat (first | exact .head _ | apply List.Mem.tail)) (by omega) (fun xe hxe => Nx.go ?_))
    | (show RdB _ _ _; refine RdB.mk' (by repeat (first | exact .head _ | apply List.Mem.tail)) (Nx.go ?_))
    | (refine AR.i64 (by omega) ?_; conv => whnf)
    | (refine AR.u64 (by omega) ?_; conv => whnf)
    | (refine AR.u8 (by omega) ?_; conv => whnf)
    | (refine Ob.mk (by omega) ?_; conv => whnf)
    | (refine BR.mk (fun h => ?_) (fun h => ?_) <;> (first | rw [Bool.not_eq_true'] at h | rw [Bool.not_eq_false'] at h | skip) <;> rw [h] <;> (first | replace h := of_decide_eq_true h | replace h := of_decide_eq_false h | replace h := eq_of_beq h | replace h := bne_iff_ne.1 h | replace h := beq_eq_false_iff_ne.1 h | replace h := bne_eq_false_iff_eq.1 h | skip) <;> conv => whnf)
  all_goals try (simp only [resS, SV.bool.injEq, eq_comm (a := false), eq_comm (a := true), decide_eq_false_iff_not, decide_eq_true_eq] at *)
  all_goals grind [List.take_add_one, u64_inj, Bin.eq_iff]

theorem c_eqB (a b : Sli Bin) : Ct Tryz.prog 38 [] [a.sv, b.sv] [a.f encBin 2, b.f encBin 2] (Rv (.bool (decide (a.l = b.l)))) := by
  refine Ct.len (enc := encBin) (L := a.l) (List.Mem.head _) fun ha => ?_
  refine Ct.of Tryz.func38 rfl (n := 26) rfl rfl rfl ?_
  conv => whnf
  repeat' first
    | (refine Ob.mk rfl ?_; conv => whnf)
    | (refine Nx.mk ?_; conv => whnf)
    | (refine BR.yes ?_; conv => whnf)
    | (refine BR.no ?_; conv => whnf)
    | (show SemC _ _ _ (.loop (.seq (.region 4 _ _) _)) _ _ _ _ _; refine SemC.loopC (c := (.seq (.region 4 _ _) _)) (fun i : Nat => [(13, .int .i64 i)]) (fun i => i ≤ a.l.length ∧ a.l.length = b.l.length ∧ a.l.take i = b.l.take i) (fun i => a.l.length - i) 0 ?_; (conv => whnf); refine LoopQ.mk ?_ ⟨(by repeat (first | exact trivial | refine ⟨rfl, ?_⟩ | refine ⟨congrArg (Value.int _) (by omega), ?_⟩)), Imp.refl⟩ (fun i hi => ?_))
    | (show Exists _; refine Exists.intro (i + 1) ⟨?_, ?_, rfl, ⟨(by repeat (first | exact trivial | refine ⟨rfl, ?_⟩ | refine ⟨congrArg (Value.int _) (by omega), ?_⟩)), Imp.refl⟩⟩)
    | (refine BinS.agg 5 (by kernel_rfl) ?_; conv => whnf)
    | (refine Ob.mk ⟨by kernel_rfl, by kernel_rfl⟩ ?_; conv => whnf)
    | (refine SemC.draw 6 [] [.t 0, .t 1, .t 2, .t 3, .t 4, .t 5, .t 6, .t 7, .t 8] (by kernel_rfl) (by kernel_rfl) ?_; conv => whnf)
    | (refine Idx.nat ?_; conv => whnf)
    | (refine Idx.is _ rfl ?_; conv => whnf)
    | (show HasP _ _ _ _ _ _; refine HasP.mk' (by repeat (first | exact .head _ | apply List.Mem.tail)) (Nx.go ?_))
    | (show RdE _ _ _ _ _ _ _; refine RdE.s (by repeat (first | exact .head _ | apply List.Mem.tail)) (by omega) (fun xe hxe => Nx.go ?_))
    | (show RdB _ _ _; refine RdB.mk' (by repeat (first | exact .head _ | apply List.Mem.tail)) (Nx.go ?_))
    | (refine AR.i64 (by omega) ?_; conv => whnf)
    | (refine AR.u64 (by omega) ?_; conv => whnf)
    | (refine AR.u8 (by omega) ?_; conv => whnf)
    | (refine Ob.mk (by omega) ?_; conv => whnf)
    | (refine BR.mk (fun h => ?_) (fun h => ?_) <;> (first | rw [Bool.not_eq_true'] at h | rw [Bool.not_eq_false'] at h | skip) <;> rw [h] <;> (first | replace h := of_decide_eq_true h | replace h := of_decide_eq_false h | replace h := eq_of_beq h | replace h := bne_iff_ne.1 h | replace h := beq_eq_false_iff_ne.1 h | replace h := bne_eq_false_iff_eq.1 h | skip) <;> conv => whnf)
  all_goals try (simp only [resS, SV.bool.injEq, eq_comm (a := false), eq_comm (a := true), decide_eq_false_iff_not, decide_eq_true_eq] at *)
  all_goals grind [List.take_add_one, u64_inj, Bin.eq_iff]

theorem c_few06 (x : Sli UInt64) : Ct Tryz.prog 15 [] [.agg [x.sv]] [x.f encU 1] (Rs (fun y : Sli UInt64 => .agg [y.sv]) (fun _ => []) (fun y => [y.f encU 1]) (fun y => y.l = x.l.take 70)) := by
  refine Ct.pure (List.Mem.head _) slF_len fun ha => ?_
  refine Ct.post (Ct.of Tryz.func15 rfl (n := 11) rfl rfl rfl ?_)
  conv => whnf
  repeat' first
    | (refine Ob.mk rfl ?_; conv => whnf)
    | (refine Nx.mk ?_; conv => whnf)
    | (intro bk; conv => whnf)
    | (refine Idx.is (min x.l.length 70) (by omega) ?_; conv => whnf)
    | (show Post _ _ _ _ _; refine Rs.post ys rfl (Imp.fs (by repeat' (first | exact trivial | exact .head _ | apply List.Mem.tail | apply And.intro))) ?_)
    | (refine Idx.nat ?_; conv => whnf)
    | (refine Idx.is _ rfl ?_; conv => whnf)
    | (show RdB _ _ _; refine RdB.mk' (by repeat (first | exact .head _ | apply List.Mem.tail)) (Nx.go ?_))
    | (show SlW _ _ _ _ _ _ _ _ _; refine SlW.s (by repeat (first | exact .head _ | apply List.Mem.tail)) (by omega) (fun ys hys hcs => Nx.go ?_))
    | (refine Ob.mk (by omega) ?_; conv => whnf)
  grind

theorem c_few07 (b : Int) (x : List UInt8) : Ct Tryz.prog 16 [] [.agg [.int .i64 b, .str x]] [] (Rv (.agg [.int .i64 b, .str (x.take 260)])) := by
  refine Ct.of Tryz.func16 rfl (n := 13) rfl rfl rfl ?_
  conv => whnf
  repeat' first
    | (refine Ob.mk rfl ?_; conv => whnf)
    | (refine Nx.mk ?_; conv => whnf)
    | (intro bk; conv => whnf)
    | (refine Idx.is (min x.length 260) (by omega) ?_; conv => whnf)
    | (refine SemC.draw 1 [] [.t 0, .t 1, .t 2, .t 3, .t 4, .t 5, .t 6, .t 7, .t 8, .t 9, .l 10] (by kernel_rfl) (by kernel_rfl) ?_; conv => whnf)
    | (refine Idx.nat ?_; conv => whnf)
    | (refine Idx.is _ rfl ?_; conv => whnf)
    | (show RdB _ _ _; refine RdB.mk' (by repeat (first | exact .head _ | apply List.Mem.tail)) (Nx.go ?_))
    | (show SlW _ _ _ _ _ _ _ _ _; refine SlW.s (by repeat (first | exact .head _ | apply List.Mem.tail)) (by omega) (fun ys hys hcs => Nx.go ?_))
    | (refine Ob.mk (by omega) ?_; conv => whnf)
  grind [resS]

theorem c_few08 (a b : Int) (x : Sli UInt64) : Ct Tryz.prog 17 [] [.agg [.int .i64 a, .int .i64 b, x.sv]] [x.f encU 1] (Rs (fun y : Sli UInt64 => .agg [.int .i64 a, .int .i64 b, y.sv]) (fun _ => []) (fun y => [y.f encU 1]) (fun y => y.l = x.l.take 200)) := by
  refine Ct.pure (List.Mem.head _) slF_len fun ha => ?_
  refine Ct.post (Ct.of Tryz.func17 rfl (n := 15) rfl rfl rfl ?_)
  conv => whnf
  repeat' first
    | (refine Ob.mk rfl ?_; conv => whnf)
    | (refine Nx.mk ?_; conv => whnf)
    | (intro bk; conv => whnf)
    | (refine Idx.is (min x.l.length 200) (by omega) ?_; conv => whnf)
    | (show Post _ _ _ _ _; refine Rs.post ys rfl (Imp.fs (by repeat' (first | exact trivial | exact .head _ | apply List.Mem.tail | apply And.intro))) ?_)
    | (refine SemC.draw 1 [] [.t 0, .t 1, .t 2, .t 3, .t 4, .t 5, .t 6, .t 7, .t 8, .t 9, .t 10, .t 11, .l 12] (by kernel_rfl) (by kernel_rfl) ?_; conv => whnf)
    | (refine Idx.nat ?_; conv => whnf)
    | (refine Idx.is _ rfl ?_; conv => whnf)
    | (show RdB _ _ _; refine RdB.mk' (by repeat (first | exact .head _ | apply List.Mem.tail)) (Nx.go ?_))
    | (show SlW _ _ _ _ _ _ _ _ _; refine SlW.s (by repeat (first | exact .head _ | apply List.Mem.tail)) (by omega) (fun ys hys hcs => Nx.go ?_))
    | (refine Ob.mk (by omega) ?_; conv => whnf)
  grind

theorem c_few09 (a : Int) (x : Sli Bin) : Ct Tryz.prog 18 [] [.agg [.int .i64 a, x.sv]] [x.f encBin 2] (Rs (fun y : Sli Bin => .agg [.int .i64 a, y.sv]) (fun _ => []) (fun y => [y.f encBin 2]) (fun y => y.l = x.l.take 300)) := by
  refine Ct.pure (List.Mem.head _) slF_len fun ha => ?_
  refine Ct.post (Ct.of Tryz.func18 rfl (n := 13) rfl rfl rfl ?_)
  conv => whnf
  repeat' first
    | (refine Ob.mk rfl ?_; conv => whnf)
    | (refine Nx.mk ?_; conv => whnf)
    | (intro bk; conv => whnf)
    | (refine Idx.is (min x.l.length 300) (by omega) ?_; conv => whnf)
    | (show Post _ _ _ _ _; refine Rs.post ys rfl (Imp.fs (by repeat' (first | exact trivial | exact .head _ | apply List.Mem.tail | apply And.intro))) ?_)
    | (refine SemC.draw 1 [] [.t 0, .t 1, .t 2, .t 3, .t 4, .t 5, .t 6, .t 7, .t 8, .t 9, .l 10] (by kernel_rfl) (by kernel_rfl) ?_; conv => whnf)
    | (refine Idx.nat ?_; conv => whnf)
    | (refine Idx.is _ rfl ?_; conv => whnf)
    | (show RdB _ _ _; refine RdB.mk' (by repeat (first | exact .head _ | apply List.Mem.tail)) (Nx.go ?_))
    | (show SlW _ _ _ _ _ _ _ _ _; refine SlW.s (by repeat (first | exact .head _ | apply List.Mem.tail)) (by omega) (fun ys hys hcs => Nx.go ?_))
    | (refine Ob.mk (by omega) ?_; conv => whnf)
  grind

theorem c_few10 (x : SkV) : Ct Tryz.prog 7 [] [x.sv] x.fs (Rs SkV.sv (fun _ => []) SkV.fs (fun y => y.sk = x.sk.few)) := by
  refine Ct.post (Ct.of Tryz.func7 rfl (n := 20) rfl rfl rfl ?_)
  conv => whnf
  repeat' first
    | (refine Ob.mk rfl ?_; conv => whnf)
    | (refine Nx.mk ?_; conv => whnf)
    | (intro bk; conv => whnf)
    | (show CallK _ _ 15 _ _ _ _; refine CallK.rf (c_few06 x.e) (by repeat' (first | exact trivial | exact .head _ | apply List.Mem.tail | apply And.intro)) (fun e he => Nx.go ?_))
    | (show CallK _ _ 16 _ _ _ _; refine CallK.rv (c_few07 x.bits x.regs) (by repeat' (first | exact trivial | exact .head _ | apply List.Mem.tail | apply And.intro)) (Nx.go ?_))
    | (show CallK _ _ 17 _ _ _ _; refine CallK.rf (c_few08 x.rows x.cols x.c) (by repeat' (first | exact trivial | exact .head _ | apply List.Mem.tail | apply And.intro)) (fun c hc => Nx.go ?_))
    | (show CallK _ _ 18 _ _ _ _; refine CallK.rf (c_few09 x.fine x.g) (by repeat' (first | exact trivial | exact .head _ | apply List.Mem.tail | apply And.intro)) (fun g hg => Nx.go ?_))
    | (show Post _ _ _ _ _; refine Rs.post { x with e := e, regs := x.regs.take 260, c := c, g := g } rfl ((Imp.pure (p := (x.regs.take 260).length ≤ 9223372036854775807) (by simp; omega)).trans (Imp.fs (by repeat' (first | exact trivial | exact .head _ | apply List.Mem.tail | apply And.intro)))) ?_)
    | (refine SemC.draw 1 [] [.t 0, .t 1, .t 2, .t 3, .t 4, .t 5, .t 7, .t 8, .t 10, .t 11, .t 13, .t 14, .s 6, .s 9, .s 12, .s 15, .t 16, .l 17] (by kernel_rfl) (by kernel_rfl) ?_; conv => whnf)
    | (show RdB _ _ _; refine RdB.mk' (by repeat (first | exact .head _ | apply List.Mem.tail)) (Nx.go ?_))
    | (refine Ob.mk (by omega) ?_; conv => whnf)
  simp [SkV.sk, Sk.few, he, hc, hg]

theorem c_exactSame (a b : Sli UInt64) : Ct Tryz.prog 23 [] [.agg [a.sv], .agg [b.sv]] [a.f encU 1, b.f encU 1] (Rv (.bool (decide (a.l = b.l)))) := by
  refine Ct.of Tryz.func23 rfl (n := 10) rfl rfl rfl ?_
  conv => whnf
  repeat' first
    | (refine Ob.mk rfl ?_; conv => whnf)
    | (refine Nx.mk ?_; conv => whnf)
    | (intro bk; conv => whnf)
    | (show CallK _ _ 37 _ _ _ _; refine CallK.rv (c_eqU a b) (by repeat' (first | exact trivial | exact .head _ | apply List.Mem.tail | apply And.intro)) (Nx.go ?_))
    | (show RdB _ _ _; refine RdB.mk' (by repeat (first | exact .head _ | apply List.Mem.tail)) (Nx.go ?_))
    | (refine Ob.mk (by omega) ?_; conv => whnf)
  rfl

theorem c_cmsSame (r c r2 c2 : Int) (a b : Sli UInt64) : Ct Tryz.prog 24 [] [.agg [.int .i64 r, .int .i64 c, a.sv], .agg [.int .i64 r2, .int .i64 c2, b.sv]] [a.f encU 1, b.f encU 1] (Rv (.bool (decide (r = r2 ∧ c = c2 ∧ a.l = b.l)))) := by
  refine Ct.of Tryz.func24 rfl (n := 24) rfl rfl rfl ?_
  conv => whnf
  repeat' first
    | (refine Ob.mk rfl ?_; conv => whnf)
    | (refine Nx.mk ?_; conv => whnf)
    | (refine BR.yes ?_; conv => whnf)
    | (refine BR.no ?_; conv => whnf)
    | (intro bk; conv => whnf)
    | (show CallK _ _ 37 _ _ _ _; refine CallK.rv (c_eqU a b) (by repeat' (first | exact trivial | exact .head _ | apply List.Mem.tail | apply And.intro)) (Nx.go ?_))
    | (show RdB _ _ _; refine RdB.mk' (by repeat (first | exact .head _ | apply List.Mem.tail)) (Nx.go ?_))
    | (refine AR.i64 (by omega) ?_; conv => whnf)
    | (refine AR.u64 (by omega) ?_; conv => whnf)
    | (refine AR.u8 (by omega) ?_; conv => whnf)
    | (refine Ob.mk (by omega) ?_; conv => whnf)
    | (refine BR.mk (fun h => ?_) (fun h => ?_) <;> (first | rw [Bool.not_eq_true'] at h | rw [Bool.not_eq_false'] at h | skip) <;> rw [h] <;> (first | replace h := of_decide_eq_true h | replace h := of_decide_eq_false h | replace h := eq_of_beq h | replace h := bne_iff_ne.1 h | replace h := beq_eq_false_iff_ne.1 h | replace h := bne_eq_false_iff_eq.1 h | skip) <;> conv => whnf)
  all_goals grind [resS]

theorem c_histSame (r r2 : Int) (a b : Sli Bin) : Ct Tryz.prog 25 [] [.agg [.int .i64 r, a.sv], .agg [.int .i64 r2, b.sv]] [a.f encBin 2, b.f encBin 2] (Rv (.bool (decide (r = r2 ∧ a.l = b.l)))) := by
  refine Ct.of Tryz.func25 rfl (n := 17) rfl rfl rfl ?_
  conv => whnf
  repeat' first
    | (refine Ob.mk rfl ?_; conv => whnf)
    | (refine Nx.mk ?_; conv => whnf)
    | (refine BR.yes ?_; conv => whnf)
    | (refine BR.no ?_; conv => whnf)
    | (intro bk; conv => whnf)
    | (show CallK _ _ 38 _ _ _ _; refine CallK.rv (c_eqB a b) (by repeat' (first | exact trivial | exact .head _ | apply List.Mem.tail | apply And.intro)) (Nx.go ?_))
    | (show RdB _ _ _; refine RdB.mk' (by repeat (first | exact .head _ | apply List.Mem.tail)) (Nx.go ?_))
    | (refine AR.i64 (by omega) ?_; conv => whnf)
    | (refine AR.u64 (by omega) ?_; conv => whnf)
    | (refine AR.u8 (by omega) ?_; conv => whnf)
    | (refine Ob.mk (by omega) ?_; conv => whnf)
    | (refine BR.mk (fun h => ?_) (fun h => ?_) <;> (first | rw [Bool.not_eq_true'] at h | rw [Bool.not_eq_false'] at h | skip) <;> rw [h] <;> (first | replace h := of_decide_eq_true h | replace h := of_decide_eq_false h | replace h := eq_of_beq h | replace h := bne_iff_ne.1 h | replace h := beq_eq_false_iff_ne.1 h | replace h := bne_eq_false_iff_eq.1 h | skip) <;> conv => whnf)
  all_goals grind [resS]

theorem c_same (x y : SkV) : Ct Tryz.prog 11 [] [x.sv, y.sv] (x.fs ++ y.fs) (Rv (.bool (decide (x.sk = y.sk)))) := by
  refine Ct.of Tryz.func11 rfl (n := 45) rfl rfl rfl ?_
  conv => whnf
  repeat' first
    | (refine Ob.mk rfl ?_; conv => whnf)
    | (refine Nx.mk ?_; conv => whnf)
    | (refine BR.yes ?_; conv => whnf)
    | (refine BR.no ?_; conv => whnf)
    | (intro bk; conv => whnf)
    | (show CallK _ _ 23 _ _ _ _; refine CallK.rv (c_exactSame x.e y.e) (by repeat' (first | exact trivial | exact .head _ | apply List.Mem.tail | apply And.intro)) (Nx.go ?_))
    | (show CallK _ _ 24 _ _ _ _; refine CallK.rv (c_cmsSame x.rows x.cols y.rows y.cols x.c y.c) (by repeat' (first | exact trivial | exact .head _ | apply List.Mem.tail | apply And.intro)) (Nx.go ?_))
    | (show CallK _ _ 25 _ _ _ _; refine CallK.rv (c_histSame x.fine y.fine x.g y.g) (by repeat' (first | exact trivial | exact .head _ | apply List.Mem.tail | apply And.intro)) (Nx.go ?_))
    | (refine BinS.agg 5 (by kernel_rfl) ?_; conv => whnf)
    | (refine Ob.mk ⟨by kernel_rfl, by kernel_rfl⟩ ?_; conv => whnf)
    | (show RdB _ _ _; refine RdB.mk' (by repeat (first | exact .head _ | apply List.Mem.tail)) (Nx.go ?_))
    | (refine AR.i64 (by omega) ?_; conv => whnf)
    | (refine AR.u64 (by omega) ?_; conv => whnf)
    | (refine AR.u8 (by omega) ?_; conv => whnf)
    | (refine Ob.mk (by omega) ?_; conv => whnf)
    | (refine BR.mk (fun h => ?_) (fun h => ?_) <;> (first | rw [Bool.not_eq_true'] at h | rw [Bool.not_eq_false'] at h | skip) <;> rw [h] <;> (first | replace h := of_decide_eq_true h | replace h := of_decide_eq_false h | replace h := eq_of_beq h | replace h := bne_iff_ne.1 h | replace h := beq_eq_false_iff_ne.1 h | replace h := bne_eq_false_iff_eq.1 h | skip) <;> conv => whnf)
  all_goals (simp only [resS, SV.bool.injEq, SkV.sk, Sk.mk.injEq]; grind)
end Go.Proofs.YtpdpajafaifcjaaGreatDoor

/- exact -/
namespace Go.Proofs.YtpdpajafaifcjaaGreatDoor
open Go.Proofs.YtpdpajafaifcjaaGreatDoor.W
set_option maxRecDepth 100000
set_option linter.unusedVariables false
theorem c_pairsU (x : Sli UInt64) : Ct Tryz.prog 60 [] [x.sv] [x.f encU 1] (Rs (fun b : Nat => .fn 68 [] [.raw (.pointer (some ⟨b, 0, none⟩))]) (fun _ => []) (fun b => [blkF b [x.sv] 22, x.f encU 1]) (fun _ => True)) := by
  refine Ct.post (Ct.of Tryz.func60 rfl (n := 4) rfl rfl rfl ?_)
  conv => whnf
  repeat' first
    | (refine Ob.mk rfl ?_; conv => whnf)
    | (refine Nx.mk ?_; conv => whnf)
    | (intro bk; conv => whnf)
    | (show Post _ _ _ _ _; exact Rs.post bk rfl ((Imp.pubCells 0 rfl).trans (Imp.fs (by repeat' (first | exact trivial | exact .head _ | apply List.Mem.tail | apply And.intro)))) trivial)
    | (refine Ob.mk (by omega) ?_; conv => whnf)

theorem i_pairsU (x : Sli UInt64) (b : Nat) (hl : x.l.length ≤ 9223372036854775807) : It Tryz.prog 68 [] [.raw (.pointer (some ⟨b, 0, none⟩))] [blkF b [x.sv] 22, x.f encU 1] ((pairsU x.l).map dens) (fun _ _ => True) := by
  refine It.of Tryz.func68 rfl (n := 22) rfl rfl rfl (fun lp => ?_)
  conv => whnf
  repeat' first
    | (refine Ob.mk rfl ?_; conv => whnf)
    | (refine Nx.mk ?_; conv => whnf)
    | (refine BR.yes ?_; conv => whnf)
    | (refine BR.no ?_; conv => whnf)
    | (show SemC _ _ _ (.loop (.seq (.seq (.region 1 _ _) _) _)) _ _ _ _ _; refine SemC.loopB (c := (.seq (.seq (.region 1 _ _) _) _)) (fun j : Nat => [(3, .int .i64 (j + 1))]) (fun j => [(0, .seq lp ((pairsU x.l).map dens) (some j))]) (fun j => j ≤ x.l.length - 1) (fun j => x.l.length - j) 0 ?_; (conv => whnf); refine LoopQ.mk ?_ ⟨(by repeat (first | exact trivial | refine ⟨rfl, ?_⟩ | refine ⟨congrArg (Value.int _) (by omega), ?_⟩)), Imp.refl⟩ (fun j hi => ?_))
    | (show Exists _; refine Exists.intro (j + 1) ⟨?_, ?_, rfl, ⟨(by repeat (first | exact trivial | refine ⟨rfl, ?_⟩ | refine ⟨congrArg (Value.int _) (by omega), ?_⟩)), Imp.refl⟩⟩)
    | (refine Idx.is j (by omega) ?_; conv => whnf)
    | (refine Idx.is (j + 1) (by omega) ?_; conv => whnf)
    | (refine Ob.mk ⟨rfl, ?_⟩ ⟨Nx.go ?_, Nx.go ?_⟩)
    | (exact ⟨_, _, rfl, Or.inl rfl, trivial⟩)
    | (refine ⟨_, _, rfl, Or.inr (congrArg some ?_), trivial⟩)
    | (refine SemC.draw 3 [] [.t 0, .t 1, .t 2, .t 3, .t 4, .t 5, .t 6, .t 7, .t 8, .t 9, .l 10, .t 11] (by kernel_rfl) (by kernel_rfl) ?_; conv => whnf)
    | (refine Idx.nat ?_; conv => whnf)
    | (refine Idx.is _ rfl ?_; conv => whnf)
    | (show HasP _ _ _ _ _ _; refine HasP.mk' (by repeat (first | exact .head _ | apply List.Mem.tail)) (Nx.go ?_))
    | (show RdE _ _ _ _ _ _ _; refine RdE.s (by repeat (first | exact .head _ | apply List.Mem.tail)) (by omega) (fun xe hxe => Nx.go ?_))
    | (show RdB _ _ _; refine RdB.mk' (by repeat (first | exact .head _ | apply List.Mem.tail)) (Nx.go ?_))
    | (refine AR.i64 (by omega) ?_; conv => whnf)
    | (refine AR.u64 (by omega) ?_; conv => whnf)
    | (refine AR.u8 (by omega) ?_; conv => whnf)
    | (refine Ob.mk (by omega) ?_; conv => whnf)
    | (refine BR.mk (fun h => ?_) (fun h => ?_) <;> (first | rw [Bool.not_eq_true'] at h | rw [Bool.not_eq_false'] at h | skip) <;> rw [h] <;> (first | replace h := of_decide_eq_true h | replace h := of_decide_eq_false h | replace h := eq_of_beq h | replace h := bne_iff_ne.1 h | replace h := beq_eq_false_iff_ne.1 h | replace h := bne_eq_false_iff_eq.1 h | skip) <;> conv => whnf)
  all_goals first | exact pairsU_at (by assumption) (by assumption) | grind [pairsU_len]

theorem c_exactRight (x : Sli UInt64) : Ct Tryz.prog 50 [] [.agg [x.sv]] [x.f encU 1] (Rv (.bool (exactRight x.l))) := by
  refine Ct.len (enc := encU) (L := x.l) (List.Mem.head _) fun hl => ?_
  refine Ct.of Tryz.func50 rfl (n := 19) rfl rfl rfl ?_
  conv => whnf
  repeat' first
    | (refine Ob.mk rfl ?_; conv => whnf)
    | (refine Nx.mk ?_; conv => whnf)
    | (refine BR.yes ?_; conv => whnf)
    | (refine BR.no ?_; conv => whnf)
    | (intro bk; conv => whnf)
    | (show CallK _ _ 60 _ _ _ _; refine CallK.rf (c_pairsU x) (by repeat' (first | exact trivial | exact .head _ | apply List.Mem.tail | apply And.intro)) (fun b hb => Nx.go ?_))
    | (show SemC _ _ _ (.rangeFunc _ _ (.seq (.region 3 _ _) _) _) _ _ _ _ _; refine SemC.rangeC (σ := Bool) (fun lb x => setCells lb 1 [.bool x]) (fun n y => y = (decide ((x.l.length : Int) ≤ 64) && risesU (x.l.take (n + 1)))) (fun c y => c = .exit 0 ∧ y = false ∧ risesU x.l = false) (pairsU x.l) 2 (i_pairsU x b hl) (decide ((x.l.length : Int) ≤ 64)) ?_ (fun _ => rfl) (fun D r => Imp.to 4 rfl (by repeat' (first | exact trivial | exact .head _ | apply List.Mem.tail | apply And.intro))) (by repeat' (first | exact trivial | exact .head _ | apply List.Mem.tail | apply And.intro)) rfl (fun D rc nr x a hx ha => ?_) (fun D x o hx => ?_) (fun D c x o hx => ?_))
    | (refine Nx1.mk ?_; obtain ⟨u, v, hu, hv, rfl⟩ := pairsU_inv ha; (conv => whnf))
    | (refine Nx2.mk ?_; obtain ⟨rfl, rfl, hs⟩ := hx; (conv => whnf))
    | (show EndS _ _ _ _ _ _ _; refine EndS.mark 2 rfl rfl (fun o => Nx.go ?_))
    | (refine Ob.mk ⟨rfl, rfl⟩ ?_; conv => whnf)
    | (show Exists _; refine Exists.intro (x) ⟨?_, Imp.to 4 rfl (by repeat' (first | exact trivial | exact .head _ | apply List.Mem.tail | apply And.intro))⟩)
    | (show Exists _; refine Exists.intro (false) ⟨?_, Imp.to 4 rfl (by repeat' (first | exact trivial | exact .head _ | apply List.Mem.tail | apply And.intro))⟩)
    | (show RdB _ _ _; refine RdB.mk' (by repeat (first | exact .head _ | apply List.Mem.tail)) (Nx.go ?_))
    | (refine AR.i64 (by omega) ?_; conv => whnf)
    | (refine AR.u64 (by omega) ?_; conv => whnf)
    | (refine AR.u8 (by omega) ?_; conv => whnf)
    | (refine Ob.mk (by omega) ?_; conv => whnf)
    | (refine BR.mk (fun h => ?_) (fun h => ?_) <;> (first | rw [Bool.not_eq_true'] at h | rw [Bool.not_eq_false'] at h | skip) <;> rw [h] <;> (first | replace h := of_decide_eq_true h | replace h := of_decide_eq_false h | replace h := eq_of_beq h | replace h := bne_iff_ne.1 h | replace h := beq_eq_false_iff_ne.1 h | replace h := bne_eq_false_iff_eq.1 h | skip) <;> conv => whnf)
  all_goals try (simp only [resS, SV.bool.injEq, exactRight] at *)
  · simp [risesU_1]
  · have := risesU_snoc hu hv; grind [UInt64.lt_iff_toNat_lt, risesU_take]
  · have := risesU_snoc hu hv; grind [UInt64.lt_iff_toNat_lt]
  · rw [pairsU_len, take_all (by omega)] at hx; rw [hx]; congr 1; exact decide_eq_decide.2 (by omega)
  · grind
end Go.Proofs.YtpdpajafaifcjaaGreatDoor

/- parts -/
namespace Go.Proofs.YtpdpajafaifcjaaGreatDoor
open Go.Proofs.YtpdpajafaifcjaaGreatDoor.W
set_option maxRecDepth 100000
set_option linter.unusedVariables false
theorem c_isBits (n : Int) : Ct Tryz.prog 61 [] [.int .i64 n] [] (Rv (.bool (decide (3 ≤ n ∧ n ≤ 8)))) := by
  refine Ct.of Tryz.func61 rfl (n := 9) rfl rfl rfl ?_
  conv => whnf
  repeat' first
    | (refine Ob.mk rfl ?_; conv => whnf)
    | (refine Nx.mk ?_; conv => whnf)
    | (refine BR.yes ?_; conv => whnf)
    | (refine BR.no ?_; conv => whnf)
    | (refine AR.i64 (by omega) ?_; conv => whnf)
    | (refine AR.u64 (by omega) ?_; conv => whnf)
    | (refine AR.u8 (by omega) ?_; conv => whnf)
    | (refine Ob.mk (by omega) ?_; conv => whnf)
    | (refine BR.mk (fun h => ?_) (fun h => ?_) <;> (first | rw [Bool.not_eq_true'] at h | rw [Bool.not_eq_false'] at h | skip) <;> rw [h] <;> (first | replace h := of_decide_eq_true h | replace h := of_decide_eq_false h | replace h := eq_of_beq h | replace h := bne_iff_ne.1 h | replace h := beq_eq_false_iff_ne.1 h | replace h := bne_eq_false_iff_eq.1 h | skip) <;> conv => whnf)
  all_goals grind [resS]

theorem c_most (n : Int) (h : 0 ≤ n ∧ n ≤ 64) : Ct Tryz.prog 62 [] [.int .i64 n] [] (Rv (.int .i64 (65 - n))) := by
  refine Ct.of Tryz.func62 rfl (n := 5) rfl rfl rfl ?_
  conv => whnf
  repeat' first
    | (refine Ob.mk rfl ?_; conv => whnf)
    | (refine Nx.mk ?_; conv => whnf)
    | (refine AR.i64 (by omega) ?_; conv => whnf)
    | (refine AR.u64 (by omega) ?_; conv => whnf)
    | (refine AR.u8 (by omega) ?_; conv => whnf)
    | (refine Ob.mk (by omega) ?_; conv => whnf)
  rfl

theorem c_hllRight (bits : Int) (s : List UInt8) (hs : s.length ≤ 9223372036854775807) : Ct Tryz.prog 51 [] [.agg [.int .i64 bits, .str s]] [] (Rv (.bool (hllRight bits s))) := by
  refine Ct.of Tryz.func51 rfl (n := 35) rfl rfl rfl ?_
  conv => whnf
  repeat' first
    | (refine AR.is (shl1 (by omega)) ?_; conv => whnf)
    | (refine Ob.mk rfl ?_; conv => whnf)
    | (refine Nx.mk ?_; conv => whnf)
    | (refine BR.yes ?_; conv => whnf)
    | (refine BR.no ?_; conv => whnf)
    | (intro bk; conv => whnf)
    | (show CallK _ _ 61 _ _ _ _; refine CallK.rv (c_isBits _) (by repeat' (first | exact trivial | exact .head _ | apply List.Mem.tail | apply And.intro)) (Nx.go ?_))
    | (show CallK _ _ 62 _ _ _ _; refine CallK.rv (c_most _ (by omega)) (by repeat' (first | exact trivial | exact .head _ | apply List.Mem.tail | apply And.intro)) (Nx.go ?_))
    | (show SemC _ _ _ (.loop (.seq (.region 5 _ _) _)) _ _ _ _ _; refine SemC.loopC (c := (.seq (.region 5 _ _) _)) (fun i : Nat => [(21, .int .i64 i), (3, .bool true)]) (fun i => i ≤ s.length ∧ (s.take i).all (fun x => decide ((x.toNat : Int) ≤ 65 - bits)) = true) (fun i => s.length - i) 0 ?_; (conv => whnf); refine LoopQ.mk ?_ ⟨(by repeat (first | exact trivial | refine ⟨rfl, ?_⟩ | refine ⟨congrArg (Value.int _) (by omega), ?_⟩)), Imp.refl⟩ (fun i hi => ?_))
    | (show Exists _; refine Exists.intro (i + 1) ⟨?_, ?_, rfl, ⟨(by repeat (first | exact trivial | refine ⟨rfl, ?_⟩ | refine ⟨congrArg (Value.int _) (by omega), ?_⟩)), Imp.refl⟩⟩)
    | (refine SemC.draw 1 [] [.t 0, .t 1, .l 2, .t 3, .t 4, .t 5, .t 6, .t 7, .t 8, .t 9, .t 10, .t 11, .t 12] (by kernel_rfl) (by kernel_rfl) ?_; conv => whnf)
    | (refine SemC.draw 7 [] [.t 0, .t 1, .t 2, .t 3, .t 4, .t 5, .t 6, .s 7, .t 8] (by kernel_rfl) (by kernel_rfl) ?_; conv => whnf)
    | (refine Idx.nat ?_; conv => whnf)
    | (refine Idx.is _ rfl ?_; conv => whnf)
    | (intro u hu hu2; conv => whnf)
    | (show RdB _ _ _; refine RdB.mk' (by repeat (first | exact .head _ | apply List.Mem.tail)) (Nx.go ?_))
    | (refine AR.i64 (by omega) ?_; conv => whnf)
    | (refine AR.u64 (by omega) ?_; conv => whnf)
    | (refine AR.u8 (by omega) ?_; conv => whnf)
    | (refine Ob.mk (by omega) ?_; conv => whnf)
    | (refine BR.mk (fun h => ?_) (fun h => ?_) <;> (first | rw [Bool.not_eq_true'] at h | rw [Bool.not_eq_false'] at h | skip) <;> rw [h] <;> (first | replace h := of_decide_eq_true h | replace h := of_decide_eq_false h | replace h := eq_of_beq h | replace h := bne_iff_ne.1 h | replace h := beq_eq_false_iff_ne.1 h | replace h := bne_eq_false_iff_eq.1 h | skip) <;> conv => whnf)
  all_goals grind [resS, hllRight, List.take_add_one]

theorem c_pop64 (x : Int) (hx : 0 ≤ x ∧ x ≤ 18446744073709551615) : Ct Tryz.prog 73 [] [.int .u64 x] [] (Rv (.int .i64 (popU x))) := by
  refine Ct.of Tryz.func73 rfl (n := 35) rfl rfl rfl ?_
  conv => whnf
  repeat' first
    | (refine AR.mk ?_; conv => whnf)
    | (refine Ob.mk rfl ?_; conv => whnf)
    | (refine Nx.mk ?_; conv => whnf)
    | (refine AR.i64 (by omega) ?_; conv => whnf)
    | (refine AR.u64 (by omega) ?_; conv => whnf)
    | (refine AR.u8 (by omega) ?_; conv => whnf)
    | (refine Ob.mk (by omega) ?_; conv => whnf)
  rfl

theorem c_pop (x : Int) (hx : 0 ≤ x ∧ x ≤ 18446744073709551615) : Ct Tryz.prog 69 [] [.int .u64 x] [] (Rv (.int .i64 (popU x))) := by
  refine Ct.of Tryz.func69 rfl (n := 8) rfl rfl rfl ?_
  conv => whnf
  repeat' first
    | (refine Ob.mk rfl ?_; conv => whnf)
    | (refine Nx.mk ?_; conv => whnf)
    | (refine BR.yes ?_; conv => whnf)
    | (refine BR.no ?_; conv => whnf)
    | (show CallK _ _ 73 _ _ _ _; refine CallK.rv (c_pop64 x hx) (by repeat' (first | exact trivial | exact .head _ | apply List.Mem.tail | apply And.intro)) (Nx.go ?_))
    | (refine AR.i64 (by omega) ?_; conv => whnf)
    | (refine AR.u64 (by omega) ?_; conv => whnf)
    | (refine AR.u8 (by omega) ?_; conv => whnf)
    | (refine Ob.mk (by omega) ?_; conv => whnf)
    | (refine BR.mk (fun h => ?_) (fun h => ?_) <;> (first | rw [Bool.not_eq_true'] at h | rw [Bool.not_eq_false'] at h | skip) <;> rw [h] <;> (first | replace h := of_decide_eq_true h | replace h := of_decide_eq_false h | replace h := eq_of_beq h | replace h := bne_iff_ne.1 h | replace h := beq_eq_false_iff_ne.1 h | replace h := bne_eq_false_iff_eq.1 h | skip) <;> conv => whnf)
  rfl

theorem c_isSize (r c : Int) : Ct Tryz.prog 63 [] [.int .i64 r, .int .i64 c] [] (Rv (.bool (isSize r c))) := by
  refine Ct.of Tryz.func63 rfl (n := 25) rfl rfl rfl ?_
  conv => whnf
  repeat' first
    | (refine Ob.mk rfl ?_; conv => whnf)
    | (refine Nx.mk ?_; conv => whnf)
    | (refine BR.yes ?_; conv => whnf)
    | (refine BR.no ?_; conv => whnf)
    | (show CallK _ _ 69 _ _ _ _; refine CallK.rv (c_pop c (by omega)) (by repeat' (first | exact trivial | exact .head _ | apply List.Mem.tail | apply And.intro)) (Nx.go ?_))
    | (refine AR.i64 (by omega) ?_; conv => whnf)
    | (refine AR.u64 (by omega) ?_; conv => whnf)
    | (refine AR.u8 (by omega) ?_; conv => whnf)
    | (refine Ob.mk (by omega) ?_; conv => whnf)
    | (refine BR.mk (fun h => ?_) (fun h => ?_) <;> (first | rw [Bool.not_eq_true'] at h | rw [Bool.not_eq_false'] at h | skip) <;> rw [h] <;> (first | replace h := of_decide_eq_true h | replace h := of_decide_eq_false h | replace h := eq_of_beq h | replace h := bne_iff_ne.1 h | replace h := beq_eq_false_iff_ne.1 h | replace h := bne_eq_false_iff_eq.1 h | skip) <;> conv => whnf)
  all_goals (have := @popU_size c; grind [resS, isSize])

theorem c_cmsRight (r c : Int) (l : Sli UInt64) : Ct Tryz.prog 52 [] [.agg [.int .i64 r, .int .i64 c, l.sv]] [l.f encU 1] (Rv (.bool (cmsRight r c l.l))) := by
  refine Ct.of Tryz.func52 rfl (n := 19) rfl rfl rfl ?_
  conv => whnf
  repeat' first
    | (refine AR.i64 (mul_small (isSize_mul (decide_eq_true (by assumption)))) ?_; conv => whnf)
    | (refine Ob.mk rfl ?_; conv => whnf)
    | (refine Nx.mk ?_; conv => whnf)
    | (refine BR.yes ?_; conv => whnf)
    | (refine BR.no ?_; conv => whnf)
    | (intro bk; conv => whnf)
    | (show CallK _ _ 63 _ _ _ _; refine CallK.rv (c_isSize _ _) (by repeat' (first | exact trivial | exact .head _ | apply List.Mem.tail | apply And.intro)) (Nx.go ?_))
    | (show RdB _ _ _; refine RdB.mk' (by repeat (first | exact .head _ | apply List.Mem.tail)) (Nx.go ?_))
    | (refine AR.i64 (by omega) ?_; conv => whnf)
    | (refine AR.u64 (by omega) ?_; conv => whnf)
    | (refine AR.u8 (by omega) ?_; conv => whnf)
    | (refine Ob.mk (by omega) ?_; conv => whnf)
    | (refine BR.mk (fun h => ?_) (fun h => ?_) <;> (first | rw [Bool.not_eq_true'] at h | rw [Bool.not_eq_false'] at h | skip) <;> rw [h] <;> (first | replace h := of_decide_eq_true h | replace h := of_decide_eq_false h | replace h := eq_of_beq h | replace h := bne_iff_ne.1 h | replace h := beq_eq_false_iff_ne.1 h | replace h := bne_eq_false_iff_eq.1 h | skip) <;> conv => whnf)
  all_goals grind [resS, cmsRight, isSize]

theorem c_isFine (n : Int) : Ct Tryz.prog 64 [] [.int .i64 n] [] (Rv (.bool (isFine n))) := by
  refine Ct.of Tryz.func64 rfl (n := 9) rfl rfl rfl ?_
  conv => whnf
  repeat' first
    | (refine Ob.mk rfl ?_; conv => whnf)
    | (refine Nx.mk ?_; conv => whnf)
    | (refine BR.yes ?_; conv => whnf)
    | (refine BR.no ?_; conv => whnf)
    | (refine AR.i64 (by omega) ?_; conv => whnf)
    | (refine AR.u64 (by omega) ?_; conv => whnf)
    | (refine AR.u8 (by omega) ?_; conv => whnf)
    | (refine Ob.mk (by omega) ?_; conv => whnf)
    | (refine BR.mk (fun h => ?_) (fun h => ?_) <;> (first | rw [Bool.not_eq_true'] at h | rw [Bool.not_eq_false'] at h | skip) <;> rw [h] <;> (first | replace h := of_decide_eq_true h | replace h := of_decide_eq_false h | replace h := eq_of_beq h | replace h := bne_iff_ne.1 h | replace h := beq_eq_false_iff_ne.1 h | replace h := bne_eq_false_iff_eq.1 h | skip) <;> conv => whnf)
  all_goals grind [resS, isFine]

theorem c_len64 (x : UInt64) : Ct Tryz.prog 74 [] [.int .u64 x.toNat] [] (Rv (.int .i64 (lenI x.toNat))) := by
  have hx := x.toNat_lt
  refine Ct.of Tryz.func74 rfl (n := 25) rfl rfl rfl ?_
  conv => whnf
  repeat' first
    | (show AR .u8 _ _; simp only [fd32, fd16, fd8] at *; refine AR.u8 (by omega) ?_; conv => whnf)
    | (refine Ob.mk (by show _ < 256; omega) ?_; conv => whnf)
    | (refine Ob.mk rfl ?_; conv => whnf)
    | (refine Nx.mk ?_; conv => whnf)
    | (refine BR.yes ?_; conv => whnf)
    | (refine BR.no ?_; conv => whnf)
    | (refine Idx.nat ?_; conv => whnf)
    | (refine Idx.is _ rfl ?_; conv => whnf)
    | (intro u hu hu2; conv => whnf)
    | (refine AR.i64 (by omega) ?_; conv => whnf)
    | (refine AR.u64 (by omega) ?_; conv => whnf)
    | (refine AR.u8 (by omega) ?_; conv => whnf)
    | (refine Ob.mk (by omega) ?_; conv => whnf)
    | (refine BR.mk (fun h => ?_) (fun h => ?_) <;> (first | rw [Bool.not_eq_true'] at h | rw [Bool.not_eq_false'] at h | skip) <;> rw [h] <;> (first | replace h := of_decide_eq_true h | replace h := of_decide_eq_false h | replace h := eq_of_beq h | replace h := bne_iff_ne.1 h | replace h := beq_eq_false_iff_ne.1 h | replace h := bne_eq_false_iff_eq.1 h | skip) <;> conv => whnf)
  all_goals (replace hu := lenTab_get (show lenTab[_]? = some u from hu); have d32 := @lenI_div x.toNat 32; have d16 := @lenI_div x.toNat 16; have d8 := @lenI_div x.toNat 8; have e16 := @lenI_div (x.toNat / 4294967296) 16; have e8 := @lenI_div (x.toNat / 4294967296) 8; have f8 := @lenI_div (x.toNat / 65536) 8; have g8 := @lenI_div (x.toNat / 4294967296 / 65536) 8; simp only [resS, SV.int.injEq, true_and, Nat.reducePow] at *; omega)

theorem c_shifted (n k : Int) (hk : -1000 ≤ k ∧ k ≤ 1000) : Ct Tryz.prog 70 [] [.int .u64 n, .int .i64 k] [] (Rv (.int .u64 (shiftI n k))) := by
  refine Ct.of Tryz.func70 rfl (n := 14) rfl rfl rfl ?_
  conv => whnf
  repeat' first
    | (show AR _ (0 - _) _; refine AR.mk ?_; conv => whnf)
    | (refine Ob.mk (by rw [IntWalk.i64_in _ (by omega)]; omega) ?_; conv => whnf)
    | (show AR _ (_ * _) _; refine AR.mk ?_; conv => whnf)
    | (refine Ob.mk rfl ?_; conv => whnf)
    | (refine Nx.mk ?_; conv => whnf)
    | (refine BR.yes ?_; conv => whnf)
    | (refine BR.no ?_; conv => whnf)
    | (refine AR.i64 (by omega) ?_; conv => whnf)
    | (refine AR.u64 (by omega) ?_; conv => whnf)
    | (refine AR.u8 (by omega) ?_; conv => whnf)
    | (refine Ob.mk (by omega) ?_; conv => whnf)
    | (refine BR.mk (fun h => ?_) (fun h => ?_) <;> (first | rw [Bool.not_eq_true'] at h | rw [Bool.not_eq_false'] at h | skip) <;> rw [h] <;> (first | replace h := of_decide_eq_true h | replace h := of_decide_eq_false h | replace h := eq_of_beq h | replace h := bne_iff_ne.1 h | replace h := beq_eq_false_iff_ne.1 h | replace h := bne_eq_false_iff_eq.1 h | skip) <;> conv => whnf)
  all_goals grind [resS, shiftI, shrU, shlU]
end Go.Proofs.YtpdpajafaifcjaaGreatDoor

/- hist -/
namespace Go.Proofs.YtpdpajafaifcjaaGreatDoor
open Go.Proofs.YtpdpajafaifcjaaGreatDoor.W
set_option maxRecDepth 100000
set_option linter.unusedVariables false
theorem c_lenI (v : Int) (hv : 0 ≤ v ∧ v ≤ 18446744073709551615) : Ct Tryz.prog 74 [] [.int .u64 v] [] (Rv (.int .i64 (lenI v))) := by
  have h := c_len64 (U v)
  rwa [U_is hv] at h

theorem c_bucket (f v : Int) (hv : 0 ≤ v ∧ v ≤ 18446744073709551615) : Ct Tryz.prog 71 [] [.int .i64 f, .int .u64 v] [] (Rv (.int .i64 (bucket f v))) := by
  refine Ct.of Tryz.func71 rfl (n := 33) rfl rfl rfl ?_
  conv => whnf
  repeat' first
    | (show AR _ _ _; refine AR.mk ?_; conv => whnf)
    | (refine Ob.mk rfl ?_; conv => whnf)
    | (refine Nx.mk ?_; conv => whnf)
    | (refine BR.yes ?_; conv => whnf)
    | (refine BR.no ?_; conv => whnf)
    | (show CallK _ _ 64 _ _ _ _; refine CallK.rv (c_isFine f) (by repeat' (first | exact trivial | exact .head _ | apply List.Mem.tail | apply And.intro)) (Nx.go ?_))
    | (show CallK _ _ 74 _ _ _ _; refine CallK.rv (c_lenI v hv) (by repeat' (first | exact trivial | exact .head _ | apply List.Mem.tail | apply And.intro)) (Nx.go ?_))
    | (show CallK _ _ 70 _ _ _ _; refine CallK.rv (c_shifted _ _ (bucket_sh (by assumption) hv)) (by repeat' (first | exact trivial | exact .head _ | apply List.Mem.tail | apply And.intro)) (Nx.go ?_))
    | (refine SemC.draw 4 [] [.t 0, .t 1, .t 2, .t 3, .t 5, .t 6, .t 7, .s 4, .t 8, .t 9] (by kernel_rfl) (by kernel_rfl) ?_; conv => whnf)
    | (refine AR.i64 (by omega) ?_; conv => whnf)
    | (refine AR.u64 (by omega) ?_; conv => whnf)
    | (refine AR.u8 (by omega) ?_; conv => whnf)
    | (refine Ob.mk (by omega) ?_; conv => whnf)
    | (refine BR.mk (fun h => ?_) (fun h => ?_) <;> (first | rw [Bool.not_eq_true'] at h | rw [Bool.not_eq_false'] at h | skip) <;> rw [h] <;> (first | replace h := of_decide_eq_true h | replace h := of_decide_eq_false h | replace h := eq_of_beq h | replace h := bne_iff_ne.1 h | replace h := beq_eq_false_iff_ne.1 h | replace h := bne_eq_false_iff_eq.1 h | skip) <;> conv => whnf)
  all_goals first | rfl | (show SV.int .i64 _ = SV.int .i64 _; congr 1; simp only [bucket, isFine] at *; simp [*]; done) | (show SV.int .i64 _ = SV.int .i64 (bucket f v); rw [bucket, if_neg (by simp [isFine, *])]; rfl) | trace_state

theorem c_bounds (f a : Int) : Ct Tryz.prog 65 [] [.int .i64 f, .int .i64 a] [] (Rs (fun x : Int × Int => .tup [.int .u64 x.1, .int .u64 x.2, .bool (bOk f a)]) (fun _ => []) (fun _ => []) (fun _ => True)) := by
  refine Ct.post (Ct.of Tryz.func65 rfl (n := 59) rfl rfl rfl ?_)
  conv => whnf
  repeat' first
    | (show AR _ _ _; refine AR.mk ?_; conv => whnf)
    | (refine Ob.mk rfl ?_; conv => whnf)
    | (refine Nx.mk ?_; conv => whnf)
    | (refine BR.yes ?_; conv => whnf)
    | (refine BR.no ?_; conv => whnf)
    | (show CallK _ _ 64 _ _ _ _; refine CallK.rv (c_isFine f) (by repeat' (first | exact trivial | exact .head _ | apply List.Mem.tail | apply And.intro)) (Nx.go ?_))
    | (show CallK _ _ 70 _ _ _ _; refine CallK.rv (c_shifted _ _ (bound_sh (by assumption) ⟨Int.not_lt.1 (by assumption), Int.not_lt.1 (by assumption)⟩)) (by repeat' (first | exact trivial | exact .head _ | apply List.Mem.tail | apply And.intro)) (Nx.go ?_))
    | (show CallK _ _ 71 _ _ _ _; refine CallK.rv (c_bucket f (lowB f a) (shiftI_range (wrapU_range _))) (by repeat' (first | exact trivial | exact .head _ | apply List.Mem.tail | apply And.intro)) (Nx.go ?_))
    | (show SemC _ _ _ (.scope _) _ _ _ _ _; refine SemC.scope (fun i ds env lb Φ => i = 0 ∧ ds = [] ∧ bOk f a = false) (fun i ds env lb Φ h => ?_) ?_)
    | (show ∃ rest, _ ∧ _; obtain ⟨rfl, rfl, hb⟩ := h; refine ⟨_, rfl, ?_⟩; conv => whnf)
    | (show wpC _ _ _ _ _ _ _ _ _; conv => whnf)
    | (show Post _ _ _ _ _; refine Rs.post (_, _) (congrArg SV.den (congrArg SV.tup (congrArg (SV.int .u64 _ :: SV.int .u64 _ :: ·) (congrArg (fun b => [SV.bool b]) ?_)))) (Imp.fs (by repeat' (first | exact trivial | exact .head _ | apply List.Mem.tail | apply And.intro))) trivial)
    | (refine SemC.draw 8 [] [.t 0, .t 1, .t 2, .t 3, .t 4, .t 5, .t 6, .t 7, .t 8, .t 9, .t 10, .l 11, .t 12] (by kernel_rfl) (by kernel_rfl) ?_; conv => whnf)
    | (refine SemC.draw 10 [] [.t 0, .t 1, .t 2, .t 3, .t 4, .t 5, .t 6, .t 7, .t 8] (by kernel_rfl) (by kernel_rfl) ?_; conv => whnf)
    | (refine AR.i64 (by omega) ?_; conv => whnf)
    | (refine AR.u64 (by omega) ?_; conv => whnf)
    | (refine AR.u8 (by omega) ?_; conv => whnf)
    | (refine Ob.mk (by omega) ?_; conv => whnf)
    | (refine BR.mk (fun h => ?_) (fun h => ?_) <;> (first | rw [Bool.not_eq_true'] at h | rw [Bool.not_eq_false'] at h | skip) <;> rw [h] <;> (first | replace h := of_decide_eq_true h | replace h := of_decide_eq_false h | replace h := eq_of_beq h | replace h := bne_iff_ne.1 h | replace h := beq_eq_false_iff_ne.1 h | replace h := bne_eq_false_iff_eq.1 h | skip) <;> conv => whnf)
  all_goals first | exact hb.symm | (refine ⟨rfl, rfl, ?_⟩; grind [bOk, isFine]) | (rw [eq_comm]; simp only [bOk, isFine, Bool.and_eq_true, Bool.or_eq_true, decide_eq_true_eq]; refine ⟨⟨by assumption, Int.not_lt.1 (by assumption), Int.not_lt.1 (by assumption)⟩, ?_⟩; first | exact .inl (.inl (by assumption)) | exact .inl (.inr (by assumption)) | exact .inr (by assumption)) | (rw [eq_comm]; simp only [bOk, Bool.and_eq_false_iff, Bool.or_eq_false_iff, decide_eq_false_iff_not]; exact .inr ⟨⟨by assumption, by assumption⟩, by assumption⟩)

theorem c_histRight (f : Int) (x : Sli Bin) : Ct Tryz.prog 53 [] [.agg [.int .i64 f, x.sv]] [x.f encBin 2] (Rv (.bool (histRight f x.l))) := by
  refine Ct.len (enc := encBin) (L := x.l) (List.Mem.head _) fun hl => ?_
  refine Ct.of Tryz.func53 rfl (n := 50) rfl rfl rfl ?_
  conv => whnf
  repeat' first
    | (refine Ob.mk rfl ?_; conv => whnf)
    | (refine Nx.mk ?_; conv => whnf)
    | (refine BR.yes ?_; conv => whnf)
    | (refine BR.no ?_; conv => whnf)
    | (intro bk; conv => whnf)
    | (show CallK _ _ 64 _ _ _ _; refine CallK.rv (c_isFine f) (by repeat' (first | exact trivial | exact .head _ | apply List.Mem.tail | apply And.intro)) (Nx.go ?_))
    | (show CallK _ _ 65 _ _ _ _; refine CallK.rf (c_bounds _ _) (by repeat' (first | exact trivial | exact .head _ | apply List.Mem.tail | apply And.intro)) (fun r hr => Nx.go ?_))
    | (show SemC _ _ _ (.loop (.seq (.region 3 _ _) _)) _ _ _ _ _; refine SemC.loopC (c := (.seq (.region 3 _ _) _)) (fun y : Nat × Int => [(17, .int .i64 y.1), (4, .int .i64 y.2), (3, .bool (isFine f))]) (fun y => y.1 ≤ x.l.length ∧ hOk f (-1) x.l = hOk f y.2 (x.l.drop y.1)) (fun y => x.l.length - y.1) (0, -1) ?_; (conv => whnf); refine LoopQ.mk ?_ ⟨(by repeat (first | exact trivial | refine ⟨rfl, ?_⟩ | refine ⟨congrArg (Value.int _) (by omega), ?_⟩)), Imp.refl⟩ (fun y hi => ?_))
    | (show Exists _; refine Exists.intro ((y.1 + 1, _)) ⟨?_, ?_, rfl, ⟨(by repeat (first | exact trivial | refine ⟨rfl, ?_⟩ | refine ⟨congrArg (Value.int _) (by omega), ?_⟩)), Imp.to 1 rfl (by repeat' (first | exact trivial | exact .head _ | apply List.Mem.tail | apply And.intro))⟩⟩)
    | (refine BinS.agg 5 (by kernel_rfl) ?_; conv => whnf)
    | (refine Ob.mk ⟨by kernel_rfl, by kernel_rfl⟩ ?_; conv => whnf)
    | (refine Idx.nat ?_; conv => whnf)
    | (refine Idx.is _ rfl ?_; conv => whnf)
    | (show HasP _ _ _ _ _ _; refine HasP.mk' (by repeat (first | exact .head _ | apply List.Mem.tail)) (Nx.go ?_))
    | (show RdE _ _ _ _ _ _ _; refine RdE.s (by repeat (first | exact .head _ | apply List.Mem.tail)) (by omega) (fun xe hxe => Nx.go ?_))
    | (show RdB _ _ _; refine RdB.mk' (by repeat (first | exact .head _ | apply List.Mem.tail)) (Nx.go ?_))
    | (refine AR.i64 (by omega) ?_; conv => whnf)
    | (refine AR.u64 (by omega) ?_; conv => whnf)
    | (refine AR.u8 (by omega) ?_; conv => whnf)
    | (refine Ob.mk (by omega) ?_; conv => whnf)
    | (refine BR.mk (fun h => ?_) (fun h => ?_) <;> (first | rw [Bool.not_eq_true'] at h | rw [Bool.not_eq_false'] at h | skip) <;> rw [h] <;> (first | replace h := of_decide_eq_true h | replace h := of_decide_eq_false h | replace h := eq_of_beq h | replace h := bne_iff_ne.1 h | replace h := beq_eq_false_iff_ne.1 h | replace h := bne_eq_false_iff_eq.1 h | skip) <;> conv => whnf)
  · exact ⟨Nat.zero_le _, rfl⟩
  all_goals try have hdr := drop_cons hxe
  all_goals first | grind [resS, histRight, hOk, u64_zero] | (rw [drop_all (by omega)] at hi; simp [resS, histRight, hi.2, hOk])
end Go.Proofs.YtpdpajafaifcjaaGreatDoor

/- field -/
namespace Go.Proofs.YtpdpajafaifcjaaGreatDoor
open Go.Proofs.YtpdpajafaifcjaaGreatDoor.W
set_option maxRecDepth 100000
set_option linter.unusedVariables false
theorem i_bytes (n k : Int) (b1 b2 : Nat) (hn : 0 ≤ n) (hk : 0 ≤ k ∧ k ≤ 8) : It Tryz.prog 66 [] [.raw (.pointer (some ⟨b1, 0, none⟩)), .raw (.pointer (some ⟨b2, 0, none⟩))] [blkF b1 [.int .i64 k] 3, blkF b2 [.int .u64 n] 46] ((bytesX n.toNat k.toNat).map dens) (fun _ _ => True) := by
  refine It.of Tryz.func66 rfl (n := 19) rfl rfl rfl (fun lp => ?_)
  conv => whnf
  repeat' first
    | (show AR .u8 _ _; refine AR.is (by rw [shr8 hn (by omega), wrapB]) ?_; conv => whnf)
    | (show AR .i64 (_ - 1 - (0 : Nat)) _; refine AR.i64 (by omega) ?_; conv => whnf)
    | (refine Ob.mk rfl ?_; conv => whnf)
    | (refine Nx.mk ?_; conv => whnf)
    | (refine BR.yes ?_; conv => whnf)
    | (refine BR.no ?_; conv => whnf)
    | (show SemC _ _ _ (.loop (.seq (.seq (.region 1 _ _) _) _)) _ _ _ _ _; refine SemC.loopB (c := (.seq (.seq (.region 1 _ _) _) _)) (fun j : Nat => [(4, .int .i64 (k - 1 - j))]) (fun j => [(0, .seq lp ((bytesX n.toNat k.toNat).map dens) (some j))]) (fun j => (j : Int) ≤ k) (fun j => k.toNat - j) 0 ?_; (conv => whnf); refine LoopQ.mk ?_ ⟨(by repeat (first | exact trivial | refine ⟨rfl, ?_⟩ | refine ⟨congrArg (Value.int _) (by omega), ?_⟩)), Imp.refl⟩ (fun j hi => ?_))
    | (show Exists _; refine Exists.intro (j + 1) ⟨?_, ?_, rfl, ⟨(by repeat (first | exact trivial | refine ⟨rfl, ?_⟩ | refine ⟨congrArg (Value.int _) (by omega), ?_⟩)), Imp.refl⟩⟩)
    | (refine Ob.mk ⟨rfl, ?_⟩ ⟨Nx.go ?_, Nx.go ?_⟩)
    | (exact ⟨_, _, rfl, Or.inl rfl, trivial⟩)
    | (refine ⟨_, _, rfl, Or.inr (congrArg some ?_), trivial⟩)
    | (show RdB _ _ _; refine RdB.mk' (by repeat (first | exact .head _ | apply List.Mem.tail)) (Nx.go ?_))
    | (refine AR.i64 (by omega) ?_; conv => whnf)
    | (refine AR.u64 (by omega) ?_; conv => whnf)
    | (refine AR.u8 (by omega) ?_; conv => whnf)
    | (refine Ob.mk (by omega) ?_; conv => whnf)
    | (refine BR.mk (fun h => ?_) (fun h => ?_) <;> (first | rw [Bool.not_eq_true'] at h | rw [Bool.not_eq_false'] at h | skip) <;> (try rw [h]) <;> (first | replace h := of_decide_eq_true h | replace h := of_decide_eq_false h | replace h := eq_of_beq h | replace h := bne_iff_ne.1 h | replace h := beq_eq_false_iff_ne.1 h | replace h := bne_eq_false_iff_eq.1 h | skip) <;> conv => whnf)
  all_goals first | omega | exact bytesX_at (by omega) (by rw [show (k - 1 - (j : Int)).toNat = k.toNat - 1 - j by omega]) | (rw [List.length_map, bytesX_len]; omega) | trace_state

theorem c_bytes (n k : Int) : Ct Tryz.prog 57 [] [.int .u64 n, .int .i64 k] [] (Rs (fun b : Nat × Nat => .fn 66 [] [.raw (.pointer (some ⟨b.1, 0, none⟩)), .raw (.pointer (some ⟨b.2, 0, none⟩))]) (fun _ => []) (fun b => [blkF b.1 [.int .i64 k] 3, blkF b.2 [.int .u64 n] 46]) (fun _ => True)) := by
  refine Ct.post (Ct.of Tryz.func57 rfl (n := 6) rfl rfl rfl ?_)
  conv => whnf
  repeat' first
    | (refine Ob.mk rfl ?_; conv => whnf)
    | (refine Nx.mk ?_; conv => whnf)
    | (intro bk; conv => whnf)
    | (show Post _ _ _ _ _; refine Rs.post (_, _) rfl ((Imp.pubCells 0 rfl).trans ((Imp.pubCells 1 rfl).trans (Imp.fs ?_))) trivial; exact ⟨.head _, .tail _ (.head _), trivial⟩)
    | (refine Ob.mk (by omega) ?_; conv => whnf)

theorem c_fput (f n k : Int) (hf : 0 ≤ f ∧ f ≤ 255) (hn : 0 ≤ n) (hk : 0 ≤ k ∧ k ≤ 8) : Ct Tryz.prog 44 [] [.int .i64 f, .int .u64 n, .int .i64 k] [] (Rv (.str (UInt8.ofNat f.toNat :: be n.toNat k.toNat))) := by
  refine Ct.of Tryz.func44 rfl (n := 22) rfl rfl rfl ?_
  conv => whnf
  repeat' first
    | (show SemO _ _ (.buildSlice _ _ #[(0, .tmp 10)]) _ _ _ _ _; refine SemO.litV ?_; (conv => whnf); show BvV _ _ _ _ _ _; refine BvV.mk' [UInt8.ofNat f.toNat] (by repeat (first | exact .nil | refine .cons (by first | rfl | exact encB_of (by omega) | exact encU_U (by omega)) ?_)) (fun xo _ => okE_encB xo) (fun bv pv => Nx.go ?_))
    | (show SemO _ _ (.buildSlice _ _ #[(0, .tmp 17)]) _ _ _ _ _; refine SemO.lit ?_; (conv => whnf); show BsV _ _ _ _ _; refine BsV.s [v] (by repeat (first | exact .nil | refine .cons (by first | rfl | exact encB_of (by omega) | exact encU_U (by omega)) ?_)) (fun xo _ => okE_encB xo) (fun ys hys => Nx.go ?_))
    | (show SemO _ _ (.call ⟨.builtin .append, _, _⟩) _ _ _ _ _; refine SemO.appendVec ?_; (conv => whnf); refine Ob.mk ⟨rfl, rfl, rfl, rfl, rfl⟩ ?_)
    | (show AppV _ _ _ _ _ _ _ _ _ _ _ _ _ _; refine ⟨rfl, _, .fact (by repeat (first | exact .head _ | apply List.Mem.tail)), app_le (N := 1048576) ?_ (of_decide_eq_true (by kernel_rfl)), ?_, fun bv pv cv hcv => Nx.go ?_⟩)
    | (refine Ob.mk rfl ?_; conv => whnf)
    | (refine Nx.mk ?_; conv => whnf)
    | (intro bk; conv => whnf)
    | (show CallK _ _ 57 _ _ _ _; refine CallK.rf (c_bytes n k) (by repeat' (first | exact trivial | exact .head _ | apply List.Mem.tail | apply And.intro)) (fun bb hb => Nx.go ?_))
    | (show SemC _ _ _ (.rangeFunc _ _ (.region 3 _ _) _) _ _ _ _ _; refine SemC.rangeC (σ := VecS UInt8) (fun lb x => setCells (lb.set 0 (x.b, .vec encB 1 5 x.p x.n x.c x.L)) 1 [.vec 0 x.p x.n x.c]) (fun i x => x.n = 1 + i ∧ x.L = UInt8.ofNat f.toNat :: (be n.toNat k.toNat).take i) (fun c x => False) (bytesX n.toNat k.toNat) 2 (i_bytes n k bb.1 bb.2 hn hk) (⟨bv, pv, 1, 1, [UInt8.ofNat f.toNat]⟩) ?_ (fun _ => rfl) (fun D r => Imp.to 4 rfl (by repeat' (first | exact trivial | exact .head _ | apply List.Mem.tail | apply And.intro))) (by repeat' (first | exact trivial | exact .head _ | apply List.Mem.tail | apply And.intro)) rfl (fun D rc nr x a hx ha => ?_) (fun D x o hx => ?_) (fun D c x o hx => ?_))
    | (refine Nx1.mk ?_; obtain ⟨v, hv, rfl, hlt⟩ := bytesX_inv ha; (conv => whnf))
    | (refine Nx2.mk ?_; exact hx.elim)
    | (show EndS _ _ _ _ _ _ _; refine EndS.mark 2 rfl rfl (fun o => Nx.go ?_))
    | (refine Ob.mk ⟨rfl, rfl⟩ ?_; conv => whnf)
    | (show Exists _; refine Exists.intro (⟨bv, pv, x.n + ys.l.length, cv, x.L ++ ys.l⟩) ⟨?_, Imp.to 4 rfl (by repeat' (first | exact trivial | exact .head _ | apply List.Mem.tail | apply And.intro))⟩)
    | (show SemO _ _ (.convert _ _ _) _ _ _ _ _; refine SemO.toStrV rfl ?_; (conv => whnf); refine Ob.mk ⟨rfl, rfl, rfl, rfl⟩ (B2S.mk' (Nx.go ?_)))
    | (show RdB _ _ _; refine RdB.mk' (by repeat (first | exact .head _ | apply List.Mem.tail)) (Nx.go ?_))
    | (refine AR.i64 (by omega) ?_; conv => whnf)
    | (refine AR.u64 (by omega) ?_; conv => whnf)
    | (refine AR.u8 (by omega) ?_; conv => whnf)
    | (refine Ob.mk (by omega) ?_; conv => whnf)
  all_goals try dsimp only at *
  · exact ⟨rfl, rfl⟩
  · rw [hys]; simp; omega
  · rw [hys]; simp; omega
  · rw [hys]; exact ⟨by simp; omega, by rw [hx.2, take_snoc hv]; rfl⟩
  · rw [hx.2, bytesX_len, take_all (by rw [be_len]; omega)]; rfl
end Go.Proofs.YtpdpajafaifcjaaGreatDoor

/- field2 -/
namespace Go.Proofs.YtpdpajafaifcjaaGreatDoor
open Go.Proofs.YtpdpajafaifcjaaGreatDoor.W
set_option maxRecDepth 100000
set_option linter.unusedVariables false
theorem c_Put (n : UInt64) : Ct Tryz.prog 28 [] [.int .u64 n.toNat] [] (Rv (.str (putN n.toNat))) := by
  have hn := n.toNat_lt
  refine Ct.of Tryz.func28 rfl (n := 44) rfl rfl rfl ?_
  conv => whnf
  repeat' first
    | (show AR .i64 (Int.fdiv _ _) _; rw [fd8i (by omega)]; refine AR.i64 (by omega) ?_; conv => whnf)
    | (refine Ob.mk rfl ?_; conv => whnf)
    | (refine Nx.mk ?_; conv => whnf)
    | (refine BR.yes ?_; conv => whnf)
    | (refine BR.no ?_; conv => whnf)
    | (show CallK _ _ 44 _ _ _ _; refine CallK.rv (c_fput _ _ _ (by omega) (by omega) (by omega)) (by repeat' (first | exact trivial | exact .head _ | apply List.Mem.tail | apply And.intro)) (Nx.go ?_))
    | (show SemC _ _ _ (.loop (.seq (.seq (.region 9 _ _) _) _)) _ _ _ _ _; refine SemC.loopC (c := (.seq (.seq (.region 9 _ _) _) _)) (fun k : Nat => [(3, .int .i64 k)]) (fun k => 3 ≤ k ∧ k ≤ 8 ∧ szF n.toNat (8 - k) k = sz n.toNat) (fun k => 8 - k) 3 ?_; (conv => whnf); refine LoopQ.mk ?_ ⟨(by repeat (first | exact trivial | refine ⟨rfl, ?_⟩ | refine ⟨congrArg (Value.int _) (by omega), ?_⟩)), Imp.refl⟩ (fun k hi => ?_))
    | (show Exists _; refine Exists.intro (k + 1) ⟨?_, ?_, rfl, ⟨(by repeat (first | exact trivial | refine ⟨rfl, ?_⟩ | refine ⟨congrArg (Value.int _) (by omega), ?_⟩)), Imp.refl⟩⟩)
    | (refine AR.i64 (by omega) ?_; conv => whnf)
    | (refine AR.u64 (by omega) ?_; conv => whnf)
    | (refine AR.u8 (by omega) ?_; conv => whnf)
    | (refine Ob.mk (by omega) ?_; conv => whnf)
    | (refine BR.mk (fun h => ?_) (fun h => ?_) <;> (first | rw [Bool.not_eq_true'] at h | rw [Bool.not_eq_false'] at h | skip) <;> (try rw [h]) <;> (first | replace h := of_decide_eq_true h | replace h := of_decide_eq_false h | replace h := eq_of_beq h | replace h := bne_iff_ne.1 h | replace h := beq_eq_false_iff_ne.1 h | replace h := bne_eq_false_iff_eq.1 h | skip) <;> conv => whnf)
  all_goals try simp only [resS, SV.str.injEq]
  · rw [putN, if_pos (by omega)]; simp [be]
  · rw [putN, if_neg (by omega), if_pos (by omega)]; congr 2 <;> omega
  · rw [putN, if_neg (by omega), if_neg (by omega), if_pos (by omega)]; congr 2; omega
  · exact ⟨by omega, by omega, rfl⟩
  · rw [shr8 (by omega) (by omega)] at h; have h' : n.toNat / 256 ^ k ≠ 0 := fun e => h (by simp only [Int.toNat_natCast]; rw [e]; rfl)
    have hs := szF_step (n := n.toNat) (f := 8 - k) (k := k) ⟨by omega, h'⟩ (by omega); exact ⟨by omega, by omega, by rw [← hi.2.2, hs]; congr 1⟩
  · omega
  · rw [shr8 (by omega) (by omega)] at h; have h' : n.toNat / 256 ^ k = 0 := by simpa only [Int.toNat_natCast, Int.natCast_eq_zero] using h
    have hs := szF_stop (n := n.toNat) (f := 8 - k) (k := k) (fun c => c.2 h'); rw [putN, if_neg (by omega), if_neg (by omega), if_neg (by omega), ← hi.2.2, hs]; congr 2
  · have hs := szF_stop (n := n.toNat) (f := 8 - k) (k := k) (by omega); rw [putN, if_neg (by omega), if_neg (by omega), if_neg (by omega), ← hi.2.2, hs]; congr 2

/-- an error of the library's make -/
abbrev er (a : Addr) : SV := .iface 166 (.raw (.pointer (some a)))
/-- the package field's errors -/
abbrev gField (am an : Addr) (sm sn : TypeId) : Facts := [blkF 3 [er am] sm, blkF 2 [er an] sn, ptF am, ptF an]
theorem c_PutI (m : Int) (hm : 0 ≤ m ∧ m ≤ 18446744073709551615) : Ct Tryz.prog 28 [] [.int .u64 m] [] (Rv (.str (putN m.toNat))) := by
  have h := c_Put (U m)
  have e : (U m).toNat = m.toNat := by have := U_is hm; omega
  rw [e, Int.toNat_of_nonneg hm.1] at h
  exact h

theorem c_is2 (a t : Addr) (sa st : TypeId) : Ct Tryz.prog 49 [] [er a, er t, .bool true] [ptF a, ptF t] (Rv (.bool (decide (a = t)))) := by
  refine Ct.of Tryz.func49 rfl (n := 54) rfl rfl rfl ?_
  conv => whnf
  repeat' first
    | (show BinS _ _ _ _ _ _ _ _; refine BinS.errs2 rfl rfl rfl rfl rfl (Nat.succ_ne_zero _) (.head _) (.tail _ (.head _)) ?_; conv => whnf)
    | (show BR (hasAll _ _) _ _; refine BR.noK (by kernel_rfl) ?_; conv => whnf)
    | (refine Ob.mk rfl ?_; conv => whnf)
    | (refine Nx.mk ?_; conv => whnf)
    | (refine BR.yes ?_; conv => whnf)
    | (refine BR.no ?_; conv => whnf)
    | (show SemC _ _ _ (.loop (.block 1 (.seq (.seq (.region 1 _ _) _) _))) _ _ _ _ _; refine SemC.loopC (c := (.block 1 (.seq (.seq (.region 1 _ _) _) _))) (fun x : Unit => [(0, er a)]) (fun x => True) (fun x => 0) () ?_; (conv => whnf); refine LoopQ.mk ?_ ⟨(by repeat (first | exact trivial | refine ⟨rfl, ?_⟩ | refine ⟨congrArg (Value.int _) (by omega), ?_⟩)), Imp.refl⟩ (fun x hi => ?_))
    | (refine Idx.nat ?_; conv => whnf)
    | (refine Idx.is _ rfl ?_; conv => whnf)
    | (show HasP _ _ _ _ _ _; refine HasP.mk' (by repeat (first | exact .head _ | apply List.Mem.tail)) (Nx.go ?_))
    | (show RdE _ _ _ _ _ _ _; refine RdE.s (by repeat (first | exact .head _ | apply List.Mem.tail)) (by omega) (fun xe hxe => Nx.go ?_))
    | (show RdB _ _ _; refine RdB.mk' (by repeat (first | exact .head _ | apply List.Mem.tail)) (Nx.go ?_))
    | (refine AR.i64 (by omega) ?_; conv => whnf)
    | (refine AR.u64 (by omega) ?_; conv => whnf)
    | (refine AR.u8 (by omega) ?_; conv => whnf)
    | (refine Ob.mk (by omega) ?_; conv => whnf)
    | (refine BR.mk (fun h => ?_) (fun h => ?_) <;> (first | rw [Bool.not_eq_true'] at h | rw [Bool.not_eq_false'] at h | skip) <;> (try rw [h]) <;> (first | replace h := of_decide_eq_true h | replace h := of_decide_eq_false h | replace h := eq_of_beq h | replace h := bne_iff_ne.1 h | replace h := beq_eq_false_iff_ne.1 h | replace h := bne_eq_false_iff_eq.1 h | skip) <;> conv => whnf)
  all_goals first | trivial | grind [resS]

theorem c_is (a t : Addr) (sa st : TypeId) : Ct Tryz.prog 36 [] [er a, er t] [ptF a, ptF t] (Rv (.bool (decide (a = t)))) := by
  refine Ct.of Tryz.func36 rfl (n := 22) rfl rfl rfl ?_
  conv => whnf
  repeat' first
    | (show CallK _ _ 48 _ _ _ _; refine CallK.ext (.iface 141 (.agg [.raw (.pointer (some ⟨4, 166, none⟩))])) (fun w => ⟨w, by kernel_rfl, Kept.refl _ _⟩) ?_; conv => whnf)
    | (show InvK _ _ _ _ _; refine InvK.mk' 115 (.agg [.raw (.pointer (some ⟨4, 166, none⟩))]) (fun w => by kernel_rfl) ?_; refine CallK.ext (.bool true) (fun w => ⟨w, by kernel_rfl, Kept.refl _ _⟩) ?_; conv => whnf)
    | (refine Ob.mk rfl ?_; conv => whnf)
    | (refine Nx.mk ?_; conv => whnf)
    | (refine BR.yes ?_; conv => whnf)
    | (refine BR.no ?_; conv => whnf)
    | (show CallK _ _ 49 _ _ _ _; refine CallK.rv (c_is2 a t sa st) (by repeat' (first | exact trivial | exact .head _ | apply List.Mem.tail | apply And.intro)) (Nx.go ?_))
    | (refine AR.i64 (by omega) ?_; conv => whnf)
    | (refine AR.u64 (by omega) ?_; conv => whnf)
    | (refine AR.u8 (by omega) ?_; conv => whnf)
    | (refine Ob.mk (by omega) ?_; conv => whnf)
    | (refine BR.mk (fun h => ?_) (fun h => ?_) <;> (first | rw [Bool.not_eq_true'] at h | rw [Bool.not_eq_false'] at h | skip) <;> (try rw [h]) <;> (first | replace h := of_decide_eq_true h | replace h := of_decide_eq_false h | replace h := eq_of_beq h | replace h := bne_iff_ne.1 h | replace h := beq_eq_false_iff_ne.1 h | replace h := bne_eq_false_iff_eq.1 h | skip) <;> conv => whnf)
  all_goals rfl

theorem c_toldM (am an : Addr) (sm sn : TypeId) : Ct Tryz.prog 59 [] [er am] (gField am an sm sn) (Rv (.int .i64 20)) := by
  refine Ct.of Tryz.func59 rfl (n := 11) rfl rfl rfl ?_
  conv => whnf
  repeat' first
    | (refine BR.yesK (decide_eq_true rfl) ?_; conv => whnf)
    | (refine Ob.mk rfl ?_; conv => whnf)
    | (refine Nx.mk ?_; conv => whnf)
    | (refine BR.yes ?_; conv => whnf)
    | (refine BR.no ?_; conv => whnf)
    | (show CallK _ _ 36 _ _ _ _; refine CallK.rv (c_is am am sm sm) (by repeat' (first | exact trivial | exact .head _ | apply List.Mem.tail | apply And.intro)) (Nx.go ?_))
    | (show RdB _ _ _; refine RdB.mk' (by repeat (first | exact .head _ | apply List.Mem.tail)) (Nx.go ?_))
    | (refine Ob.mk (by omega) ?_; conv => whnf)
    | (refine BR.mk (fun h => ?_) (fun h => ?_) <;> (first | rw [Bool.not_eq_true'] at h | rw [Bool.not_eq_false'] at h | skip) <;> (try rw [h]) <;> (first | replace h := of_decide_eq_true h | replace h := of_decide_eq_false h | replace h := eq_of_beq h | replace h := bne_iff_ne.1 h | replace h := beq_eq_false_iff_ne.1 h | replace h := bne_eq_false_iff_eq.1 h | skip) <;> conv => whnf)
  rfl

theorem c_toldN (am an : Addr) (sm sn : TypeId) (hne : am ≠ an) : Ct Tryz.prog 59 [] [er an] (gField am an sm sn) (Rv (.int .i64 21)) := by
  refine Ct.of Tryz.func59 rfl (n := 11) rfl rfl rfl ?_
  conv => whnf
  repeat' first
    | (show CallK _ _ _ [er an, er am] _ _ _; refine CallK.rv (c_is an am sn sm) (by repeat' (first | exact trivial | exact .head _ | apply List.Mem.tail | apply And.intro)) (Nx.go ?_))
    | (show CallK _ _ _ [er an, er an] _ _ _; refine CallK.rv (c_is an an sn sn) (by repeat' (first | exact trivial | exact .head _ | apply List.Mem.tail | apply And.intro)) (Nx.go ?_))
    | (refine BR.yesK (decide_eq_true rfl) ?_; conv => whnf)
    | (refine BR.noK (decide_eq_false (fun e => hne e.symm)) ?_; conv => whnf)
    | (refine Ob.mk rfl ?_; conv => whnf)
    | (refine Nx.mk ?_; conv => whnf)
    | (refine BR.yes ?_; conv => whnf)
    | (refine BR.no ?_; conv => whnf)
    | (show RdB _ _ _; refine RdB.mk' (by repeat (first | exact .head _ | apply List.Mem.tail)) (Nx.go ?_))
    | (refine Ob.mk (by omega) ?_; conv => whnf)
    | (refine BR.mk (fun h => ?_) (fun h => ?_) <;> (first | rw [Bool.not_eq_true'] at h | rw [Bool.not_eq_false'] at h | skip) <;> (try rw [h]) <;> (first | replace h := of_decide_eq_true h | replace h := of_decide_eq_false h | replace h := eq_of_beq h | replace h := bne_iff_ne.1 h | replace h := beq_eq_false_iff_ne.1 h | replace h := bne_eq_false_iff_eq.1 h | skip) <;> conv => whnf)
  rfl

theorem c_takeM (b : Nat) (rest : List UInt8) (k : Int) (am an : Addr) (sm sn : TypeId) (hk : rest.length < k) : Ct Tryz.prog 67 [(b, .cells [.str rest] 138)] [.own 0 b 0, .int .i64 k] (gField am an sm sn) (Rs (fun _ : Unit => .tup [.int .u64 0, er am]) (fun _ => [(b, .cells [.str rest] 138)]) (fun _ => []) (fun _ => True)) := by
  refine Ct.post (Ct.of Tryz.func67 rfl (n := 45) rfl rfl rfl ?_)
  conv => whnf
  repeat' first
    | (show BR _ _ _; refine BR.mk (fun _ => ?_) (fun h => absurd (of_decide_eq_false h) (by omega)); conv => whnf)
    | (refine Ob.mk rfl ?_; conv => whnf)
    | (refine Nx.mk ?_; conv => whnf)
    | (refine BR.yes ?_; conv => whnf)
    | (refine BR.no ?_; conv => whnf)
    | (show Post _ _ _ _ _; exact Rs.post () rfl (Imp.to 1 rfl (by repeat' (first | exact trivial | exact .head _ | apply List.Mem.tail | apply And.intro))) trivial)
    | (refine SemC.draw 2 [] [.t 0, .t 1, .t 2] (by kernel_rfl) (by kernel_rfl) ?_; conv => whnf)
    | (refine Idx.nat ?_; conv => whnf)
    | (refine Idx.is _ rfl ?_; conv => whnf)
    | (intro u hu hu2; conv => whnf)
    | (show RdB _ _ _; refine RdB.mk' (by repeat (first | exact .head _ | apply List.Mem.tail)) (Nx.go ?_))
    | (show SlW _ _ _ _ _ _ _ _ _; refine SlW.s (by repeat (first | exact .head _ | apply List.Mem.tail)) (by omega) (fun ys hys hcs => Nx.go ?_))
    | (refine AR.i64 (by omega) ?_; conv => whnf)
    | (refine AR.u64 (by omega) ?_; conv => whnf)
    | (refine AR.u8 (by omega) ?_; conv => whnf)
    | (refine Ob.mk (by omega) ?_; conv => whnf)
    | (refine BR.mk (fun h => ?_) (fun h => ?_) <;> (first | rw [Bool.not_eq_true'] at h | rw [Bool.not_eq_false'] at h | skip) <;> (try rw [h]) <;> (first | replace h := of_decide_eq_true h | replace h := of_decide_eq_false h | replace h := eq_of_beq h | replace h := bne_iff_ne.1 h | replace h := beq_eq_false_iff_ne.1 h | replace h := bne_eq_false_iff_eq.1 h | skip) <;> conv => whnf)

theorem c_takeF (b : Nat) (rest : List UInt8) (k : Int) (hk : 0 ≤ k ∧ k ≤ rest.length ∧ k ≤ 8) : Ct Tryz.prog 67 [(b, .cells [.str rest] 138)] [.own 0 b 0, .int .i64 k] [] (Rs (fun _ : Unit => .tup [.int .u64 (beVal (rest.take k.toNat)), .raw .nilIface]) (fun _ => [(b, .cells [.str (rest.drop k.toNat)] 138)]) (fun _ => []) (fun _ => True)) := by
  refine Ct.post (Ct.of Tryz.func67 rfl (n := 45) rfl rfl rfl ?_)
  conv => whnf
  repeat' first
    | (show BR (decide ((rest.length : Int) < k)) _ _; refine BR.mk (fun h => absurd (of_decide_eq_true h) (by omega)) (fun _ => ?_); conv => whnf)
    | (show AR .u64 (_ * 2 ^ _) _; refine AR.is (shl_be (by simp; omega)) ?_; conv => whnf)
    | (show AR .u64 (((BitVec.ofInt _ _ ||| _).toNat : Nat) : Int) _; refine AR.is (r := (beVal (rest.take (i + 1)) : Int)) (by rw [take_snoc hu]; exact or_be (by simp; omega)) ?_; conv => whnf)
    | (refine Ob.mk rfl ?_; conv => whnf)
    | (refine Nx.mk ?_; conv => whnf)
    | (refine BR.yes ?_; conv => whnf)
    | (refine BR.no ?_; conv => whnf)
    | (show SemC _ _ _ (.loop (.seq (.region 5 _ _) _)) _ _ _ _ _; refine SemC.loopC (c := (.seq (.region 5 _ _) _)) (fun i : Nat => [(18, .int .i64 i), (6, .int .u64 (beVal (rest.take i)))]) (fun i => (i : Int) ≤ k) (fun i => k.toNat - i) 0 ?_; (conv => whnf); refine LoopQ.mk ?_ ⟨(by repeat (first | exact trivial | refine ⟨rfl, ?_⟩ | refine ⟨congrArg (Value.int _) (by omega), ?_⟩)), Imp.refl⟩ (fun i hi => ?_))
    | (show Exists _; refine Exists.intro (i + 1) ⟨?_, ?_, rfl, ⟨(by repeat (first | exact trivial | refine ⟨rfl, ?_⟩ | refine ⟨congrArg (Value.int _) (by omega), ?_⟩)), Imp.refl⟩⟩)
    | (refine Idx.is k.toNat (by omega) ?_; conv => whnf)
    | (show Post _ _ _ _ _; refine Rs.post () ?_ (Imp.to 1 ?_ (by repeat' (first | exact trivial | exact .head _ | apply List.Mem.tail | apply And.intro))) trivial)
    | (refine SemC.draw 2 [] [.t 0, .t 1, .t 2] (by kernel_rfl) (by kernel_rfl) ?_; conv => whnf)
    | (refine Idx.nat ?_; conv => whnf)
    | (refine Idx.is _ rfl ?_; conv => whnf)
    | (intro u hu hu2; conv => whnf)
    | (show RdB _ _ _; refine RdB.mk' (by repeat (first | exact .head _ | apply List.Mem.tail)) (Nx.go ?_))
    | (show SlW _ _ _ _ _ _ _ _ _; refine SlW.s (by repeat (first | exact .head _ | apply List.Mem.tail)) (by omega) (fun ys hys hcs => Nx.go ?_))
    | (refine AR.i64 (by omega) ?_; conv => whnf)
    | (refine AR.u64 (by omega) ?_; conv => whnf)
    | (refine AR.u8 (by omega) ?_; conv => whnf)
    | (refine Ob.mk (by omega) ?_; conv => whnf)
    | (refine BR.mk (fun h => ?_) (fun h => ?_) <;> (first | rw [Bool.not_eq_true'] at h | rw [Bool.not_eq_false'] at h | skip) <;> (try rw [h]) <;> (first | replace h := of_decide_eq_true h | replace h := of_decide_eq_false h | replace h := eq_of_beq h | replace h := bne_iff_ne.1 h | replace h := beq_eq_false_iff_ne.1 h | replace h := bne_eq_false_iff_eq.1 h | skip) <;> conv => whnf)
  all_goals try omega
  · rw [show k.toNat = i by omega]; rfl
  · simp
end Go.Proofs.YtpdpajafaifcjaaGreatDoor

/- field3 -/
namespace Go.Proofs.YtpdpajafaifcjaaGreatDoor
open Go.Proofs.YtpdpajafaifcjaaGreatDoor.W
set_option maxRecDepth 100000
set_option linter.unusedVariables false
/-- what reading a number hands back -/
def numRes (am an : Addr) : GetR → SV
  | .more => .tup [.int .u64 0, er am]
  | .bad => .tup [.int .u64 0, er an]
  | .ok n _ => .tup [.int .u64 (n : Nat), .raw .nilIface]
theorem c_take1 (b : Nat) (f : UInt8) (r : List UInt8) : Ct Tryz.prog 67 [(b, .cells [.str (f :: r)] 138)] [.own 0 b 0, .int .i64 1] [] (Rs (fun _ : Unit => .tup [.int .u64 f.toNat, .raw .nilIface]) (fun _ => [(b, .cells [.str r] 138)]) (fun _ => []) (fun _ => True)) := by
  have h := c_takeF b (f :: r) 1 ⟨by omega, by simp; omega, by omega⟩
  simpa [beVal] using h

theorem c_num0 (b : Nat) (am an : Addr) (sm sn : TypeId) : Ct Tryz.prog 58 [(b, .cells [.str []] 138)] [.own 0 b 0] (gField am an sm sn) (Rs (fun _ : List UInt8 => numRes am an (getF [])) (fun r => [(b, .cells [.str r] 138)]) (fun _ => []) (fun q => ∀ n q', getF [] = .ok n q' → q = q')) := by
  refine Ct.post (Ct.of Tryz.func58 rfl (n := 68) rfl rfl rfl ?_)
  conv => whnf
  repeat' first
    | (refine Ob.mk rfl ?_; conv => whnf)
    | (refine Nx.mk ?_; conv => whnf)
    | (refine BR.yes ?_; conv => whnf)
    | (refine BR.no ?_; conv => whnf)
    | (show CallK _ _ 67 _ _ _ _; refine CallK.lendS [0] (c_takeM b [] 1 am an sm sn (by simp)) ⟨rfl, trivial⟩ rfl rfl rfl (by repeat' (first | exact trivial | exact .head _ | apply List.Mem.tail | apply And.intro)) (fun _ _ => ⟨rfl, Nx.go ?_⟩))
    | (show Post _ _ _ _ _; exact Rs.post [] rfl (Imp.to 1 rfl (by repeat' (first | exact trivial | exact .head _ | apply List.Mem.tail | apply And.intro))) (fun _ _ h => nomatch h))
    | (refine SemC.draw 16 [] [.t 0, .t 2, .t 3, .t 4, .t 5, .t 6, .t 7, .t 8, .t 9, .t 10, .t 11, .t 12, .s 1, .t 13] (by kernel_rfl) (by kernel_rfl) ?_; conv => whnf)
    | (refine SemC.draw 17 [] [.t 0, .t 1, .t 2] (by kernel_rfl) (by kernel_rfl) ?_; conv => whnf)
    | (refine Idx.nat ?_; conv => whnf)
    | (refine Idx.is _ rfl ?_; conv => whnf)
    | (show RdB _ _ _; refine RdB.mk' (by repeat (first | exact .head _ | apply List.Mem.tail)) (Nx.go ?_))
    | (show SlW _ _ _ _ _ _ _ _ _; refine SlW.s (by repeat (first | exact .head _ | apply List.Mem.tail)) (by omega) (fun ys hys hcs => Nx.go ?_))
    | (refine AR.i64 (by omega) ?_; conv => whnf)
    | (refine AR.u64 (by omega) ?_; conv => whnf)
    | (refine AR.u8 (by omega) ?_; conv => whnf)
    | (refine Ob.mk (by omega) ?_; conv => whnf)
    | (refine BR.mk (fun h => ?_) (fun h => ?_) <;> (first | rw [Bool.not_eq_true'] at h | rw [Bool.not_eq_false'] at h | skip) <;> (try rw [h]) <;> (first | replace h := of_decide_eq_true h | replace h := of_decide_eq_false h | replace h := eq_of_beq h | replace h := bne_iff_ne.1 h | replace h := beq_eq_false_iff_ne.1 h | replace h := bne_eq_false_iff_eq.1 h | skip) <;> conv => whnf)

theorem AR.cut {f : UInt8} {r : List UInt8} {n : Nat} {q : Int → Prop} (h : n ≤ r.length) (hs : r.length ≤ 9223372036854775800) (hq : q ((1 + n : Nat) : Int)) : AR .i64 (((f :: r).length : Int) - (List.drop n r).length) q := by
  have e : (((f :: r).length : Int) - (List.drop n r).length) = ((1 + n : Nat) : Int) := by simp; omega
  rw [e]; exact AR.i64 (by omega) hq
theorem getF_more {f : UInt8} {r : List UInt8} (h : r.length < (sizeBase f.toNat).1) : getF (f :: r) = .more := by rw [getF, if_pos h]
theorem getF_bad {f : UInt8} {r : List UInt8} (h : ¬ r.length < (sizeBase f.toNat).1) (hb : putN (beVal (r.take (sizeBase f.toNat).1) + (sizeBase f.toNat).2) ≠ (f :: r).take (1 + (sizeBase f.toNat).1)) : getF (f :: r) = .bad := by rw [getF, if_neg h, if_pos hb]
theorem getF_ok {f : UInt8} {r : List UInt8} (h : ¬ r.length < (sizeBase f.toNat).1) (hb : putN (beVal (r.take (sizeBase f.toNat).1) + (sizeBase f.toNat).2) = (f :: r).take (1 + (sizeBase f.toNat).1)) : getF (f :: r) = .ok (beVal (r.take (sizeBase f.toNat).1) + (sizeBase f.toNat).2) (r.drop (sizeBase f.toNat).1) := by rw [getF, if_neg h, if_neg (by simpa using hb)]
theorem sB8 {f : UInt8} (h : (f.toNat : Int) ≥ 250) : sizeBase f.toNat = (((f.toNat : Int) - 247).toNat, 0) := by rw [sizeBase, if_pos (by omega)]; congr 1; omega
theorem sB2 {f : UInt8} (h : (f.toNat : Int) = 249) : sizeBase f.toNat = ((2 : Int).toNat, 2288) := by rw [sizeBase, if_neg (by omega), if_pos (by omega)]; rfl
theorem sB1 {f : UInt8} (h1 : ¬ (f.toNat : Int) ≥ 250) (h2 : ¬ (f.toNat : Int) = 249) (h : (f.toNat : Int) ≥ 241) : sizeBase f.toNat = ((1 : Int).toNat, (240 + ((f.toNat : Int) - 241) * 256).toNat) := by rw [sizeBase, if_neg (by omega), if_neg (by omega), if_pos (by omega)]; congr 1; omega
theorem sB0 {f : UInt8} (h : ¬ (f.toNat : Int) ≥ 241) : sizeBase f.toNat = ((0 : Int).toNat, f.toNat) := by rw [sizeBase, if_neg (by omega), if_neg (by omega), if_neg (by omega)]; rfl

theorem num_bad {P : Program} {f : UInt8} {r : List UInt8} {k v b : Nat} {am an : Addr} {a : Int} {lb : LBs} {Φ : Facts} {t : TypeId} (hk : sizeBase f.toNat = (k, v)) (ha : a = ((beVal (r.take k) + v : Nat) : Int)) (hl : k ≤ r.length)
    (h : ¬ putN a.toNat = List.drop 0 (List.take (1 + k) (f :: r))) :
    Post P (Rs (fun _ : List UInt8 => numRes am an (getF (f :: r))) (fun r => [(b, .cells [.str r] t)]) (fun _ => []) (fun q => ∀ n q', getF (f :: r) = .ok n q' → q = q')) (.tup [.int .u64 0, er an]) ((b, .cells [.str (r.drop k)] t) :: lb) Φ := by
  have e : getF (f :: r) = .bad := getF_bad (by rw [hk]; dsimp only; omega) (by rw [hk]; subst ha; rw [Int.toNat_natCast] at h; simpa using h)
  exact Rs.post (r.drop k) (by rw [e]; rfl) (Imp.to 1 rfl trivial) (fun _ _ h => by rw [e] at h; cases h)
theorem num_ok {P : Program} {f : UInt8} {r : List UInt8} {k v b : Nat} {am an : Addr} {a : Int} {lb : LBs} {Φ : Facts} {t : TypeId} (hk : sizeBase f.toNat = (k, v)) (ha : a = ((beVal (r.take k) + v : Nat) : Int)) (hl : k ≤ r.length)
    (h : putN a.toNat = List.drop 0 (List.take (1 + k) (f :: r))) :
    Post P (Rs (fun _ : List UInt8 => numRes am an (getF (f :: r))) (fun r => [(b, .cells [.str r] t)]) (fun _ => []) (fun q => ∀ n q', getF (f :: r) = .ok n q' → q = q')) (.tup [.int .u64 a, .raw .nilIface]) ((b, .cells [.str (r.drop k)] t) :: lb) Φ := by
  have e : getF (f :: r) = .ok (beVal (r.take k) + v) (r.drop k) := by have := getF_ok (f := f) (r := r) (by rw [hk]; dsimp only; omega) (by rw [hk]; subst ha; rw [Int.toNat_natCast] at h; simpa using h); rwa [hk] at this
  exact Rs.post (r.drop k) (by rw [e]; subst ha; rfl) (Imp.to 1 rfl trivial) (fun _ _ h => by rw [e] at h; cases h; rfl)

set_option maxHeartbeats 4000000
theorem c_num1 (b : Nat) (f : UInt8) (r : List UInt8) (am an : Addr) (sm sn : TypeId) (hs : r.length ≤ 9223372036854775800) : Ct Tryz.prog 58 [(b, .cells [.str (f :: r)] 138)] [.own 0 b 0] (gField am an sm sn) (Rs (fun _ : List UInt8 => numRes am an (getF (f :: r))) (fun r => [(b, .cells [.str r] 138)]) (fun _ => []) (fun q => ∀ n q', getF (f :: r) = .ok n q' → q = q')) := by
  have hf := f.toNat_lt
  refine Ct.post (Ct.of Tryz.func58 rfl (n := 68) rfl rfl rfl ?_)
  conv => whnf
  repeat' first
    | (refine Ob.mk rfl ?_; conv => whnf)
    | (refine Nx.mk ?_; conv => whnf)
    | (refine BR.yes ?_; conv => whnf)
    | (refine BR.no ?_; conv => whnf)
    | (show CallK _ _ 67 _ _ _ _; refine CallK.lendS [0] (c_take1 b f r) ⟨rfl, trivial⟩ rfl rfl rfl (by repeat' (first | exact trivial | exact .head _ | apply List.Mem.tail | apply And.intro)) (fun _ _ => ⟨rfl, Nx.go ?_⟩))
    | (show CallK _ _ 67 _ _ _ _; refine CallK.lendS [0] (c_takeF b r _ (by omega)) ⟨rfl, trivial⟩ rfl rfl rfl (by repeat' (first | exact trivial | exact .head _ | apply List.Mem.tail | apply And.intro)) (fun _ _ => ⟨rfl, Nx.go ?_⟩))
    | (show CallK _ _ 67 _ _ _ _; refine CallK.lendS [0] (c_takeM b r _ am an sm sn (by omega)) ⟨rfl, trivial⟩ rfl rfl rfl (by repeat' (first | exact trivial | exact .head _ | apply List.Mem.tail | apply And.intro)) (fun _ _ => ⟨rfl, Nx.go ?_⟩))
    | (show CallK _ _ 28 _ _ _ _; refine CallK.rv (c_PutI _ ?_) (by repeat' (first | exact trivial | exact .head _ | apply List.Mem.tail | apply And.intro)) (Nx.go ?_))
    | (show CallK _ _ _ [_, .int .i64 2] _ _ _; by_cases hc : (r.length : Int) < 2)
    | (show CallK _ _ _ [_, .int .i64 1] _ _ _; by_cases hc : (r.length : Int) < 1)
    | (show CallK _ _ _ [_, .int .i64 ((f.toNat : Int) - 247)] _ _ _; by_cases hc : (r.length : Int) < (f.toNat : Int) - 247)
    | (show AR .i64 (((f :: r).length : Int) - (List.drop _ r).length) _; refine AR.cut (by first | omega | simp) (by omega) ?_; conv => whnf)
    | (show Ob (_ ∧ _ ≤ (f :: r).length) _; refine Ob.mk (by simp only [List.length_cons]; omega) ?_; conv => whnf)
    | (show Post _ _ _ [(_, .cells [.str r] _)] _; have e : getF (f :: r) = .more := getF_more (by (first | rw [sB8 (by assumption)] | rw [sB2 (by assumption)] | rw [sB1 (by assumption) (by assumption) (by assumption)]); dsimp only; omega); exact Rs.post r (by rw [e]; rfl) (Imp.to 1 rfl (by repeat' (first | exact trivial | exact .head _ | apply List.Mem.tail | apply And.intro))) (fun _ _ h => by rw [e] at h; cases h))
    | (show (0 : Int) ≤ _ ∧ _ ≤ (18446744073709551615 : Int); first | (have := @be_max8 (r.take ((f.toNat : Int) - 247).toNat) (by simp; omega); omega) | (have := @be_max2 (r.take (Int.toNat 2)) (by simp; omega); omega) | (have := @be_max2 (r.take (Int.toNat 1)) (by simp; omega); omega) | (simp [beVal]; omega))
    | (have hk := sB8 (f := f) (by assumption); show Post _ _ _ _ _; first | (refine num_bad hk ?_ ?_ (by assumption) <;> omega) | exact num_ok hk (by omega) (by omega) (by assumption))
    | (have hk := sB2 (f := f) (by assumption); show Post _ _ _ _ _; first | (refine num_bad hk ?_ ?_ (by assumption) <;> omega) | exact num_ok hk (by omega) (by omega) (by assumption))
    | (have hk := sB1 (f := f) (by assumption) (by assumption) (by assumption); show Post _ _ _ _ _; first | (refine num_bad hk ?_ ?_ (by assumption) <;> omega) | exact num_ok hk (by omega) (by omega) (by assumption))
    | (have hk := sB0 (f := f) (by assumption); show Post _ _ _ _ _; first | (refine num_bad hk ?_ ?_ (by assumption) <;> omega) | exact num_ok hk (by omega) (by omega) (by assumption))
    | (show AR .u64 (_ * _) _; rw [show (2:Int) ^ min (Int.toNat 8) IntKind.u64.bits = 256 from by decide]; refine AR.u64 (by omega) ?_; conv => whnf)
    | (show AR .u64 ((beVal (List.take (Int.toNat 0) r) : Int) + _) _; refine AR.u64 (by simp [beVal]; omega) ?_; conv => whnf)
    | (show AR .u64 ((beVal _ : Int) + 0) _; refine AR.addBe8 (by simp; omega) ?_; conv => whnf)
    | (show AR .u64 ((beVal _ : Int) + _) _; refine AR.addBe2 (by simp; omega) (by omega) ?_; conv => whnf)
    | (refine SemC.draw 16 [] [.t 0, .t 2, .t 3, .t 4, .t 5, .t 6, .t 7, .t 8, .t 9, .t 10, .t 11, .t 12, .s 1, .t 13] (by kernel_rfl) (by kernel_rfl) ?_; conv => whnf)
    | (refine SemC.draw 17 [] [.t 0, .t 1, .t 2] (by kernel_rfl) (by kernel_rfl) ?_; conv => whnf)
    | (refine Idx.nat ?_; conv => whnf)
    | (refine Idx.is _ rfl ?_; conv => whnf)
    | (show RdB _ _ _; refine RdB.mk' (by repeat (first | exact .head _ | apply List.Mem.tail)) (Nx.go ?_))
    | (show SlW _ _ _ _ _ _ _ _ _; refine SlW.s (by repeat (first | exact .head _ | apply List.Mem.tail)) (by omega) (fun ys hys hcs => Nx.go ?_))
    | (refine AR.i64 (by omega) ?_; conv => whnf)
    | (refine AR.u64 (by omega) ?_; conv => whnf)
    | (refine AR.u8 (by omega) ?_; conv => whnf)
    | (refine Ob.mk (by omega) ?_; conv => whnf)
    | (refine BR.mk (fun h => ?_) (fun h => ?_) <;> (first | rw [Bool.not_eq_true'] at h | rw [Bool.not_eq_false'] at h | skip) <;> (try rw [h]) <;> (first | replace h := of_decide_eq_true h | replace h := of_decide_eq_false h | replace h := eq_of_beq h | replace h := bne_iff_ne.1 h | replace h := beq_eq_false_iff_ne.1 h | replace h := bne_eq_false_iff_eq.1 h | skip) <;> conv => whnf)
end Go.Proofs.YtpdpajafaifcjaaGreatDoor

/- field4 -/
namespace Go.Proofs.YtpdpajafaifcjaaGreatDoor
open Go.Proofs.YtpdpajafaifcjaaGreatDoor.W
set_option maxRecDepth 100000
set_option linter.unusedVariables false
theorem c_numG (b : Nat) (s : List UInt8) (am an : Addr) (sm sn : TypeId) (g : GetR) (hg : getF s = g) (hs : s.length ≤ 9223372036854775800) : Ct Tryz.prog 58 [(b, .cells [.str s] 138)] [.own 0 b 0] (gField am an sm sn) (Rs (fun _ : List UInt8 => numRes am an g) (fun r => [(b, .cells [.str r] 138)]) (fun _ => []) (fun q => ∀ n q', g = .ok n q' → q = q')) := by
  subst hg
  cases s with
  | nil => exact c_num0 b am an sm sn
  | cons f r => exact c_num1 b f r am an sm sn (by simp at hs; omega)
/-- what field.Get hands back -/
def getRes (s : List UInt8) : GetR → SV
  | .more => .tup [.int .u64 0, .str s, .int .i64 20]
  | .bad => .tup [.int .u64 0, .str s, .int .i64 21]
  | .ok n r => .tup [.int .u64 (n : Nat), .str r, .int .i64 0]

theorem c_GetM (s : List UInt8) (am an : Addr) (sm sn : TypeId) (hg : getF s = .more) (hne : am ≠ an) (hs : s.length ≤ 9223372036854775800) : Ct Tryz.prog 47 [] [.str s] (gField am an sm sn) (Rv (getRes s .more)) := by
  refine Ct.of Tryz.func47 rfl (n := 28) rfl rfl rfl ?_
  conv => whnf
  repeat' first
    | (refine Ob.mk rfl ?_; conv => whnf)
    | (refine Nx.mk ?_; conv => whnf)
    | (refine BR.yes ?_; conv => whnf)
    | (refine BR.no ?_; conv => whnf)
    | (intro bk; conv => whnf)
    | (show CallK _ _ 58 _ _ _ _; refine CallK.lendS [0] (c_numG _ s am an sm sn .more hg hs) ⟨rfl, trivial⟩ rfl rfl rfl (by repeat' (first | exact trivial | exact .head _ | apply List.Mem.tail | apply And.intro)) (fun r hr => ⟨rfl, Nx.go ?_⟩))
    | (show CallK _ _ 59 _ _ _ _; refine CallK.rv (c_toldM am an sm sn) (by repeat' (first | exact trivial | exact .head _ | apply List.Mem.tail | apply And.intro)) (Nx.go ?_))
    | (refine SemC.draw 5 [] [.t 0, .t 1, .t 2, .t 3, .t 4, .t 5, .t 6, .t 7, .t 8] (by kernel_rfl) (by kernel_rfl) ?_; conv => whnf)
    | (show RdB _ _ _; refine RdB.mk' (by repeat (first | exact .head _ | apply List.Mem.tail)) (Nx.go ?_))
    | (refine AR.i64 (by omega) ?_; conv => whnf)
    | (refine AR.u64 (by omega) ?_; conv => whnf)
    | (refine AR.u8 (by omega) ?_; conv => whnf)
    | (refine Ob.mk (by omega) ?_; conv => whnf)
    | (refine BR.mk (fun h => ?_) (fun h => ?_) <;> (first | rw [Bool.not_eq_true'] at h | rw [Bool.not_eq_false'] at h | skip) <;> (try rw [h]) <;> (first | replace h := of_decide_eq_true h | replace h := of_decide_eq_false h | replace h := eq_of_beq h | replace h := bne_iff_ne.1 h | replace h := beq_eq_false_iff_ne.1 h | replace h := bne_eq_false_iff_eq.1 h | skip) <;> conv => whnf)
  all_goals first | rfl | (cases hr _ _ rfl; rfl)

theorem c_GetB (s : List UInt8) (am an : Addr) (sm sn : TypeId) (hg : getF s = .bad) (hne : am ≠ an) (hs : s.length ≤ 9223372036854775800) : Ct Tryz.prog 47 [] [.str s] (gField am an sm sn) (Rv (getRes s .bad)) := by
  refine Ct.of Tryz.func47 rfl (n := 28) rfl rfl rfl ?_
  conv => whnf
  repeat' first
    | (refine Ob.mk rfl ?_; conv => whnf)
    | (refine Nx.mk ?_; conv => whnf)
    | (refine BR.yes ?_; conv => whnf)
    | (refine BR.no ?_; conv => whnf)
    | (intro bk; conv => whnf)
    | (show CallK _ _ 58 _ _ _ _; refine CallK.lendS [0] (c_numG _ s am an sm sn .bad hg hs) ⟨rfl, trivial⟩ rfl rfl rfl (by repeat' (first | exact trivial | exact .head _ | apply List.Mem.tail | apply And.intro)) (fun r hr => ⟨rfl, Nx.go ?_⟩))
    | (show CallK _ _ 59 _ _ _ _; refine CallK.rv (c_toldN am an sm sn hne) (by repeat' (first | exact trivial | exact .head _ | apply List.Mem.tail | apply And.intro)) (Nx.go ?_))
    | (refine SemC.draw 5 [] [.t 0, .t 1, .t 2, .t 3, .t 4, .t 5, .t 6, .t 7, .t 8] (by kernel_rfl) (by kernel_rfl) ?_; conv => whnf)
    | (show RdB _ _ _; refine RdB.mk' (by repeat (first | exact .head _ | apply List.Mem.tail)) (Nx.go ?_))
    | (refine AR.i64 (by omega) ?_; conv => whnf)
    | (refine AR.u64 (by omega) ?_; conv => whnf)
    | (refine AR.u8 (by omega) ?_; conv => whnf)
    | (refine Ob.mk (by omega) ?_; conv => whnf)
    | (refine BR.mk (fun h => ?_) (fun h => ?_) <;> (first | rw [Bool.not_eq_true'] at h | rw [Bool.not_eq_false'] at h | skip) <;> (try rw [h]) <;> (first | replace h := of_decide_eq_true h | replace h := of_decide_eq_false h | replace h := eq_of_beq h | replace h := bne_iff_ne.1 h | replace h := beq_eq_false_iff_ne.1 h | replace h := bne_eq_false_iff_eq.1 h | skip) <;> conv => whnf)
  all_goals first | rfl | (cases hr _ _ rfl; rfl)

theorem c_GetO (s : List UInt8) (am an : Addr) (sm sn : TypeId) (n : Nat) (q : List UInt8) (hg : getF s = (.ok n q)) (hne : am ≠ an) (hs : s.length ≤ 9223372036854775800) : Ct Tryz.prog 47 [] [.str s] (gField am an sm sn) (Rv (getRes s (.ok n q))) := by
  refine Ct.of Tryz.func47 rfl (n := 28) rfl rfl rfl ?_
  conv => whnf
  repeat' first
    | (refine Ob.mk rfl ?_; conv => whnf)
    | (refine Nx.mk ?_; conv => whnf)
    | (refine BR.yes ?_; conv => whnf)
    | (refine BR.no ?_; conv => whnf)
    | (intro bk; conv => whnf)
    | (show CallK _ _ 58 _ _ _ _; refine CallK.lendS [0] (c_numG _ s am an sm sn (.ok n q) hg hs) ⟨rfl, trivial⟩ rfl rfl rfl (by repeat' (first | exact trivial | exact .head _ | apply List.Mem.tail | apply And.intro)) (fun r hr => ⟨rfl, Nx.go ?_⟩))
    | (refine SemC.draw 5 [] [.t 0, .t 1, .t 2, .t 3, .t 4, .t 5, .t 6, .t 7, .t 8] (by kernel_rfl) (by kernel_rfl) ?_; conv => whnf)
    | (show RdB _ _ _; refine RdB.mk' (by repeat (first | exact .head _ | apply List.Mem.tail)) (Nx.go ?_))
    | (refine AR.i64 (by omega) ?_; conv => whnf)
    | (refine AR.u64 (by omega) ?_; conv => whnf)
    | (refine AR.u8 (by omega) ?_; conv => whnf)
    | (refine Ob.mk (by omega) ?_; conv => whnf)
    | (refine BR.mk (fun h => ?_) (fun h => ?_) <;> (first | rw [Bool.not_eq_true'] at h | rw [Bool.not_eq_false'] at h | skip) <;> (try rw [h]) <;> (first | replace h := of_decide_eq_true h | replace h := of_decide_eq_false h | replace h := eq_of_beq h | replace h := bne_iff_ne.1 h | replace h := beq_eq_false_iff_ne.1 h | replace h := bne_eq_false_iff_eq.1 h | skip) <;> conv => whnf)
  all_goals first | rfl | (cases hr _ _ rfl; rfl)

theorem c_Get (s : List UInt8) (am an : Addr) (sm sn : TypeId) (g : GetR) (hg : getF s = g) (hne : am ≠ an) (hs : s.length ≤ 9223372036854775800) : Ct Tryz.prog 47 [] [.str s] (gField am an sm sn) (Rv (getRes s g)) := by
  cases g with
  | more => exact c_GetM s am an sm sn hg hne hs
  | bad => exact c_GetB s am an sm sn hg hne hs
  | ok n q => exact c_GetO s am an sm sn n q hg hne hs
end Go.Proofs.YtpdpajafaifcjaaGreatDoor
