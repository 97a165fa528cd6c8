/- YtikjigkkhdkibaaGreatDoorTC: a part of the proofs of given statements of this seat; no condition beyond them. -/
import Derived.Test.YtikjigkkhdkibaaGreatDoorTB
import Derived.Laws.Externs
import Derived.Test.YtikjigkkhdkibaaGreatDoorWC
set_option linter.unusedVariables false
/- ladder: M12 -/
namespace Go.Proofs.YtikjigkkhdkibaaGreatDoor
open Go.Proofs.YtikjigkkhdkibaaGreatDoor.W
set_option maxRecDepth 100000
set_option linter.unusedVariables false
structure LowJ where
  i : Nat
  L : List UInt8
def LowI (r : List UInt8) (j : LowJ) : Prop := j.i ≤ r.length / 2 ∧ j.L.length = r.length / 2 ∧ j.L.take j.i = (lowR r).take j.i
theorem LowI.start (r : List UInt8) (m : Nat) (hm : m = r.length / 2) : LowI r ⟨0, r.take m⟩ := ⟨Nat.zero_le _, by subst hm; simp; omega, rfl⟩
theorem LowI.step {r : List UInt8} {j : LowJ} {a c : UInt8} (h : LowI r j) (hi : j.i < r.length / 2) (ha : r[2 * j.i]? = some a) (hc : r[2 * j.i + 1]? = some c) : LowI r ⟨j.i + 1, j.L.set j.i (low1 a c)⟩ := by
  refine ⟨hi, by rw [List.length_set]; exact h.2.1, ?_⟩
  show (j.L.set j.i (low1 a c)).take (j.i + 1) = (lowR r).take (j.i + 1)
  rw [take_snoc (lowR_at ha hc), take_snoc (l := j.L.set j.i (low1 a c)) (x := low1 a c) (by rw [List.getElem?_set_self (by rw [h.2.1]; exact hi)]), List.take_set_of_le (Nat.le_refl _), h.2.2]
theorem LowI.end_ {r : List UInt8} {j : LowJ} (h : LowI r j) (hi : r.length / 2 ≤ j.i) : j.L = lowR r := by
  have h1 := h.2.2
  rwa [take_all (by rw [h.2.1]; exact hi), take_all (by rw [lowR_len]; exact hi)] at h1
/-- the same, its length said otherwise -/
theorem c_hendN (k n : Nat) (bits : Int) (r0 L : List UInt8) (y : WorkR) (hn : L.length = n) : Ct Tryz.prog 188 [(y.b, .vec encB 1 5 y.p n y.c L), (y.wb, .cells [.int .i64 bits, .str r0, .vec k y.p n y.c] 278)] [.own 1 y.wb 0] [] (Rs (fun _ : Unit => .agg [.int .i64 bits, .str L]) (fun _ => [(y.b, .vec encB 1 5 y.p n y.c L), (y.wb, .cells [.int .i64 bits, .str r0, .vec k y.p n y.c] 278)]) (fun _ => []) (fun _ => True)) := by
  subst hn; exact c_hendK k bits r0 L y
theorem quo2 (n : Nat) : ((n : Int).tdiv 2) = ((n / 2 : Nat) : Int) := by rw [Int.tdiv_eq_ediv_of_nonneg (by omega)]; rfl

theorem c_hLower (b : Nat) (r : List UInt8) (h : hllRight b r = true) (h3 : 4 ≤ b) : Ct Tryz.prog 215 [] [.agg [.int .i64 b, .str r]] [] (Rv (.tup [.agg [.int .i64 (b - 1 : Nat), .str (lowR r)], .int .i64 0])) := by
  obtain ⟨hb, hl, hu⟩ := hllR_bits h
  have hp := pow_b hb
  refine Ct.of Tryz.func215 rfl (n := 75) rfl rfl rfl ?_
  conv => whnf
  repeat' first
    | (refine Idx.is (2 * j.i) (by omega) ?_; conv => whnf)
    | (refine Idx.is (2 * j.i + 1) (by omega) ?_; conv => whnf)
    | (refine Ob.mk (show 2 * j.i < r.length by omega) ?_; conv => whnf)
    | (refine Ob.mk (show 2 * j.i + 1 < r.length by omega) ?_; conv => whnf)
    | (intro u1 hu1 hv1; have hft := (show r[2 * j.i]? = some u1 from hu1); conv => whnf)
    | (intro u2 hu2 hv2; have hft := (show r[2 * j.i + 1]? = some u2 from hu2); conv => whnf)
    | (rw [quo2]; refine AR.i64 (by omega) ?_; conv => whnf)
    | (show BR (decide ((b : Int) = 3)) _ _; refine BR.noK (decide_eq_false (by omega)) ?_; conv => whnf)
    | (show SemO _ _ (.slice _ _ _ _ _) _ _ _ _ _; refine SemO.sliceVec ?_; conv => whnf)
    | (refine Ob.mk ⟨rfl, rfl, rfl, rfl, by omega⟩ ?_; conv => whnf)
    | (show SemO _ _ (.store _ _ _) _ _ _ _ _; refine SemO.storeVel ?_; (conv => whnf); refine Ob.mk ⟨rfl, rfl, rfl, rfl, rfl, Nat.le_of_ble_eq_true rfl, by omega⟩ ?_)
    | (refine Ob.mk ⟨rfl, rfl, by omega⟩ ?_; conv => whnf)
    | (intro x9 hx9; show StQ _ _ 0 _ _; refine StQ.mk' (low1 u1 u2) rfl ?_; conv => whnf)
    | (refine Ob.mk rfl ?_; conv => whnf)
    | (refine Nx.mk ?_; conv => whnf)
    | (refine BR.yes ?_; conv => whnf)
    | (refine BR.no ?_; conv => whnf)
    | (intro bk; conv => whnf)
    | (show CallK _ _ 186 _ _ _ _; refine CallK.rs (c_hstart 2 b r h) (by repeat' (first | exact trivial | exact .head _ | apply List.Mem.tail | apply And.intro)) (fun y hy => ⟨rfl, Nx.go ?_⟩))
    | (show CallK _ _ 218 _ _ _ _; refine CallK.rv (c_hlow1 u1 u2 (by have := hu u1 (List.mem_of_getElem? hu1); omega)) (by repeat' (first | exact trivial | exact .head _ | apply List.Mem.tail | apply And.intro)) (Nx.go ?_))
    | (show CallK _ _ 188 _ _ _ _; refine CallK.lendS [3, 4] (c_hendN 3 (r.length / 2) ((b : Int) - 1) r j.L y hi.2.1) ⟨rfl, rfl, trivial⟩ rfl rfl rfl (by repeat' (first | exact trivial | exact .head _ | apply List.Mem.tail | apply And.intro)) (fun _ _ => ⟨rfl, Nx.go ?_⟩))
    | (show SemC _ _ _ (.loop (.seq (.region 7 _ _) _)) _ _ _ _ _; refine SemC.loopN (c := (.seq (.region 7 _ _) _)) (fun j : LowJ => [(51, .int .i64 j.i)]) (fun lb j => lb.set 3 (y.b, .vec encB 1 5 y.p (r.length / 2) y.c j.L)) (fun j => LowI r j) (fun j => r.length / 2 - j.i) ⟨0, r.take (r.length / 2)⟩ ?_; (conv => whnf); refine LoopQ.mk ?_ ⟨(by repeat (first | exact trivial | refine ⟨rfl, ?_⟩ | refine ⟨congrArg (Value.int _) (by omega), ?_⟩)), (Imp.eq rfl)⟩ (fun j hi => ?_))
    | (show Exists _; refine Exists.intro (⟨j.i + 1, j.L.set j.i (low1 u1 u2)⟩) ⟨?_, ?_, rfl, ⟨(by repeat (first | exact trivial | refine ⟨rfl, ?_⟩ | refine ⟨congrArg (Value.int _) (by omega), ?_⟩)), Imp.eq rfl⟩⟩)
    | (refine SemC.draw 5 [] [.t 0, .t 1, .t 2, .t 3, .t 4, .t 5, .t 6, .t 7, .t 8, .t 9, .t 10, .s 11, .t 12, .t 13, .l 14] (by kernel_rfl) (by kernel_rfl) ?_; conv => whnf)
    | (refine SemC.draw 9 [] [.t 0, .t 1, .t 2, .t 3, .t 4, .t 5, .t 6, .t 7, .t 8, .t 9, .t 10, .t 11, .t 12, .t 13, .t 14, .t 15, .s 16, .t 17, .l 18] (by kernel_rfl) (by kernel_rfl) ?_; conv => whnf)
    | (refine Idx.nat ?_; conv => whnf)
    | (refine Idx.is _ rfl ?_; conv => whnf)
    | (show HasP _ _ _ _ _ _; refine HasP.mk' (by repeat (first | exact .head _ | apply List.Mem.tail)) (Nx.go ?_))
    | (show RdE _ _ _ _ _ _ _; refine RdE.s (by repeat (first | exact .head _ | apply List.Mem.tail)) (by omega) (fun xe hxe => Nx.go ?_))
    | (intro u hu hu2; conv => whnf)
    | (show RdB _ _ _; refine RdB.mk' (by repeat (first | exact .head _ | apply List.Mem.tail)) (Nx.go ?_))
    | (show SlW _ _ _ _ _ _ _ _ _; refine SlW.s (by repeat (first | exact .head _ | apply List.Mem.tail)) (by omega) (fun ys hys hcs => Nx.go ?_))
    | (refine AR.i64 (by omega) ?_; conv => whnf)
    | (refine AR.u64 (by omega) ?_; conv => whnf)
    | (refine AR.u8 (by omega) ?_; conv => whnf)
    | (refine Ob.mk (by omega) ?_; conv => whnf)
    | (refine BR.mk (fun h => ?_) (fun h => ?_) <;> (first | rw [Bool.not_eq_true'] at h | rw [Bool.not_eq_false'] at h | skip) <;> (try rw [h]) <;> (first | replace h := of_decide_eq_true h | replace h := of_decide_eq_false h | replace h := eq_of_beq h | replace h := bne_iff_ne.1 h | replace h := beq_eq_false_iff_ne.1 h | replace h := bne_eq_false_iff_eq.1 h | skip) <;> conv => whnf)
  · exact LowI.start r _ rfl
  · exact hi.step (by omega) hu1 hu2
  · show r.length / 2 - (j.i + 1) < _; omega
  · rw [hi.end_ (by omega), show ((b : Int) - 1) = ((b - 1 : Nat) : Int) by omega]; rfl

theorem c_hmax (a b : UInt8) : Ct Tryz.prog 219 [] [.int .u8 a.toNat, .int .u8 b.toNat] [] (Rv (.int .u8 (maxB a b).toNat)) := by
  refine Ct.of Tryz.func219 rfl (n := 8) rfl rfl rfl ?_
  conv => whnf
  repeat' first
    | (refine Ob.mk rfl ?_; conv => whnf)
    | (refine Nx.mk ?_; conv => whnf)
    | (refine Ob.mk (by omega) ?_; conv => whnf)
  all_goals (simp only [resS]; rw [maxB_nat]; congr 1; omega)

def chosX (a b : List UInt8) : List (List SV) := (List.range a.length).map fun (i : Nat) => [.int .i64 i, .int .u8 (maxB (a.getD i 0) (b.getD i 0)).toNat]
theorem chosX_len (a b : List UInt8) : (chosX a b).length = a.length := by simp [chosX]
theorem chosX_at {a b : List UInt8} {i : Nat} {u v : UInt8} (hu : a[i]? = some u) (hv : b[i]? = some v) : ((chosX a b).map dens)[i]? = some (dens [.int .i64 i, .int .u8 (maxB u v).toNat]) := by
  have hi := (List.getElem?_eq_some_iff.1 hu).1
  have e1 : a.getD i 0 = u := by rw [List.getD_eq_getElem?_getD, hu]; rfl
  have e2 : b.getD i 0 = v := by rw [List.getD_eq_getElem?_getD, hv]; rfl
  rw [chosX, List.map_map, List.getElem?_map, List.getElem?_range hi]
  show some (dens [SV.int .i64 i, SV.int .u8 (maxB (a.getD i 0) (b.getD i 0)).toNat]) = _
  rw [e1, e2]
theorem chosX_inv {a b : List UInt8} {i : Nat} {x : List SV} (hab : a.length = b.length) (h : (chosX a b)[i]? = some x) : ∃ u v, a[i]? = some u ∧ b[i]? = some v ∧ x = [.int .i64 i, .int .u8 (maxB u v).toNat] := by
  have hi : i < a.length := by have := (List.getElem?_eq_some_iff.1 h).1; rwa [chosX_len] at this
  rw [chosX, List.getElem?_map, List.getElem?_range hi] at h
  refine ⟨a[i], b[i]'(by omega), List.getElem?_eq_getElem hi, List.getElem?_eq_getElem (by omega), ?_⟩
  have e1 : a.getD i 0 = a[i] := by rw [List.getD_eq_getElem?_getD, List.getElem?_eq_getElem hi]; rfl
  have e2 : b.getD i 0 = b[i]'(by omega) := by rw [List.getD_eq_getElem?_getD, List.getElem?_eq_getElem (by omega)]; rfl
  simp only [Option.map_some, Option.some.injEq, e1, e2] at h
  exact h.symm

theorem c_chosen (x z : List UInt8) : Ct Tryz.prog 220 [] [.agg [.fn 219 [] []], .str x, .str z] [] (Rs (fun b : Nat × Nat × Nat => .fn 228 [] [.raw (.pointer (some ⟨b.1, 0, none⟩)), .raw (.pointer (some ⟨b.2.1, 0, none⟩)), .raw (.pointer (some ⟨b.2.2, 0, none⟩))]) (fun _ => []) (fun b => [blkF b.1 [.str x] 9, blkF b.2.1 [.fn 219 [] []] 290, blkF b.2.2 [.str z] 9]) (fun _ => True)) := by
  refine Ct.post (Ct.of Tryz.func220 rfl (n := 8) rfl rfl rfl ?_)
  conv => whnf
  repeat' first
    | (refine Ob.mk rfl ?_; conv => whnf)
    | (refine Nx.mk ?_; conv => whnf)
    | (intro bk; conv => whnf)
    | (show Post _ _ _ _ _; refine Rs.post (_, _, _) rfl (Imp.trans (Imp.pubCells 0 rfl) (Imp.trans (Imp.pubCells 1 rfl) (Imp.trans (Imp.pubCells 2 rfl) (Imp.fs ?_)))) trivial)
    | (refine Ob.mk (by omega) ?_; conv => whnf)
  exact ⟨.tail _ (.head _), .tail _ (.tail _ (.head _)), .head _, trivial⟩

theorem i_chosen (x z : List UInt8) (hxz : x.length = z.length) (hx : x.length ≤ 1000) (b1 b2 b3 : Nat) : It Tryz.prog 228 [] [.raw (.pointer (some ⟨b1, 0, none⟩)), .raw (.pointer (some ⟨b2, 0, none⟩)), .raw (.pointer (some ⟨b3, 0, none⟩))] [blkF b1 [.str x] 9, blkF b2 [.fn 219 [] []] 290, blkF b3 [.str z] 9] (fixd (chosX x z)) (fun _ _ => True) := by
  refine It.of Tryz.func228 rfl (n := 25) rfl rfl rfl (fun lp => ?_)
  conv => whnf
  repeat' first
    | (refine Ob.mk (show j < x.length by omega) ?_; conv => whnf)
    | (refine Ob.mk (show j < z.length by omega) ?_; conv => whnf)
    | (intro u1 hu1 hv1; have hft := (show x[j]? = some u1 from hu1); conv => whnf)
    | (intro u2 hu2 hv2; have hft := (show z[j]? = some u2 from hu2); conv => whnf)
    | (refine Ob.mk rfl ?_; conv => whnf)
    | (refine Nx.mk ?_; conv => whnf)
    | (refine BR.yes ?_; conv => whnf)
    | (refine BR.no ?_; conv => whnf)
    | (show CallK _ _ 219 _ _ _ _; refine CallK.rv (c_hmax u1 u2) (by repeat' (first | exact trivial | exact .head _ | apply List.Mem.tail | apply And.intro)) (Nx.go ?_))
    | (show SemC _ _ _ (.loop (.seq (.region 1 _ _) _)) _ _ _ _ _; refine SemC.loopB (c := (.seq (.region 1 _ _) _)) (fun j : Nat => [(8, .int .i64 j)]) (fun j => [(0, .seq lp (fixd (chosX x z)) (some j))]) (fun j => j ≤ x.length) (fun j => x.length - j) 0 ?_; (conv => whnf); refine LoopQ.mk ?_ ⟨(by repeat (first | exact trivial | refine ⟨rfl, ?_⟩ | refine ⟨congrArg (Value.int _) (by omega), ?_⟩)), Imp.refl⟩ (fun j hi => ?_))
    | (show Exists _; refine Exists.intro (j + 1) ⟨?_, ?_, rfl, ⟨(by repeat (first | exact trivial | refine ⟨rfl, ?_⟩ | refine ⟨congrArg (Value.int _) (by omega), ?_⟩)), Imp.refl⟩⟩)
    | (refine Ob.mk ⟨rfl, YdX.fix ?_⟩ ⟨Nx.go ?_, Nx.go ?_⟩)
    | (exact ⟨_, _, rfl, Or.inl rfl, trivial⟩)
    | (refine ⟨_, _, rfl, Or.inr (fixd_end ?_), trivial⟩)
    | (refine SemC.draw 3 [] [.t 0, .t 1, .t 2, .t 3, .t 4, .t 5, .t 6, .t 7, .t 8, .t 9, .s 10, .l 11, .t 12] (by kernel_rfl) (by kernel_rfl) ?_; conv => whnf)
    | (refine Idx.nat ?_; conv => whnf)
    | (refine Idx.is _ rfl ?_; conv => whnf)
    | (intro u hu hu2; conv => whnf)
    | (show RdB _ _ _; refine RdB.mk' (by repeat (first | exact .head _ | apply List.Mem.tail)) (Nx.go ?_))
    | (refine AR.i64 (by omega) ?_; conv => whnf)
    | (refine AR.u64 (by omega) ?_; conv => whnf)
    | (refine AR.u8 (by omega) ?_; conv => whnf)
    | (refine Ob.mk (by omega) ?_; conv => whnf)
    | (refine BR.mk (fun h => ?_) (fun h => ?_) <;> (first | rw [Bool.not_eq_true'] at h | rw [Bool.not_eq_false'] at h | skip) <;> (try rw [h]) <;> (first | replace h := of_decide_eq_true h | replace h := of_decide_eq_false h | replace h := eq_of_beq h | replace h := bne_iff_ne.1 h | replace h := beq_eq_false_iff_ne.1 h | replace h := bne_eq_false_iff_eq.1 h | skip) <;> conv => whnf)
  · exact Nat.zero_le _
  · exact chosX_at hu1 hu2
  · omega
  · omega
  · rw [List.length_map, chosX_len]; omega

theorem mergeR_at {a b : List UInt8} {i : Nat} {u v : UInt8} (hu : a[i]? = some u) (hv : b[i]? = some v) : (mergeR a b)[i]? = some (maxB u v) := by
  rw [mergeR, List.getElem?_zipWith, hu, hv]
theorem mrg_step {r z L : List UInt8} {n : Nat} {u v : UInt8} (h : L.length = r.length ∧ L.take n = (mergeR r z).take n) (hu : r[n]? = some u) (hv : z[n]? = some v) : (L.set n (maxB u v)).length = r.length ∧ (L.set n (maxB u v)).take (n + 1) = (mergeR r z).take (n + 1) := by
  refine ⟨by rw [List.length_set]; exact h.1, ?_⟩
  have hn := (List.getElem?_eq_some_iff.1 hu).1
  rw [take_snoc (mergeR_at hu hv), take_snoc (l := L.set n (maxB u v)) (x := maxB u v) (by rw [List.getElem?_set_self (by rw [h.1]; exact hn)]), List.take_set_of_le (Nat.le_refl _), h.2]
theorem mrg_end {r z L : List UInt8} (hrz : r.length = z.length) (h : L.length = r.length ∧ L.take r.length = (mergeR r z).take r.length) : L = mergeR r z := by
  have h1 := h.2
  rwa [take_all (by rw [h.1]; exact Nat.le_refl _), take_all (by rw [mergeR, List.length_zipWith]; omega)] at h1

theorem c_hMerge (b : Nat) (r z : List UInt8) (h : hllRight b r = true) (hz : hllRight b z = true) : Ct Tryz.prog 216 [] [.agg [.int .i64 b, .str r], .agg [.int .i64 b, .str z]] [] (Rv (.tup [.agg [.int .i64 b, .str (mergeR r z)], .int .i64 0])) := by
  obtain ⟨hb, hl, hu9⟩ := hllR_bits h
  obtain ⟨_, hl2, _⟩ := hllR_bits hz
  have hp := pow_b hb
  have hrz : r.length = z.length := by omega
  refine Ct.of Tryz.func216 rfl (n := 52) rfl rfl rfl ?_
  conv => whnf
  repeat' first
    | (show BR (!decide ((b : Int) = (b : Int))) _ _; refine BR.noK (by rw [decide_eq_true rfl]; rfl) ?_; conv => whnf)
    | (show BR (decide ((b : Int) ≠ (b : Int))) _ _; refine BR.noK (decide_eq_false (by simp)) ?_; conv => whnf)
    | (refine Ob.mk ⟨rfl, rfl, rfl, rfl, (List.getElem?_eq_some_iff.1 hu).1⟩ ?_; conv => whnf)
    | (refine Ob.mk ⟨rfl, rfl, (List.getElem?_eq_some_iff.1 hu).1⟩ ?_; conv => whnf)
    | (have hnl := (List.getElem?_eq_some_iff.1 hu).1; show SemO _ _ (.store _ _ _) _ _ _ _ _; refine SemO.storeVel ?_; (conv => whnf); refine Ob.mk ⟨rfl, rfl, rfl, rfl, rfl, Nat.le_of_ble_eq_true rfl, by omega⟩ ?_)
    | (intro x9 hx9; show StQ _ _ 0 _ _; refine StQ.mk' (maxB u v) rfl ?_; conv => whnf)
    | (refine Ob.mk rfl ?_; conv => whnf)
    | (refine Nx.mk ?_; conv => whnf)
    | (refine BR.yes ?_; conv => whnf)
    | (refine BR.no ?_; conv => whnf)
    | (intro bk; conv => whnf)
    | (show CallK _ _ 186 _ _ _ _; refine CallK.rs (c_hstart 3 b r h) (by repeat' (first | exact trivial | exact .head _ | apply List.Mem.tail | apply And.intro)) (fun y hy => ⟨rfl, Nx.go ?_⟩))
    | (show CallK _ _ 108 _ _ _ _; refine CallK.rv (c_hrT b z hz) (by repeat' (first | exact trivial | exact .head _ | apply List.Mem.tail | apply And.intro)) (Nx.go ?_))
    | (show CallK _ _ 220 _ _ _ _; refine CallK.rf (c_chosen r z) (by repeat' (first | exact trivial | exact .head _ | apply List.Mem.tail | apply And.intro)) (fun q hq => Nx.go ?_))
    | (show CallK _ _ 188 _ _ _ _; refine CallK.lendS [4, 5] (c_hendN 4 r.length b r x y hx.1) ⟨rfl, rfl, trivial⟩ rfl rfl rfl (by repeat' (first | exact trivial | exact .head _ | apply List.Mem.tail | apply And.intro)) (fun _ _ => ⟨rfl, Nx.go ?_⟩))
    | (show SemC _ _ _ (.rangeFunc _ _ (.seq (.region 6 _ _) _) _) _ _ _ _ _; refine SemC.rangeC (σ := List UInt8) (fun lb L => lb.set 4 (y.b, .vec encB 1 5 y.p r.length y.c L)) (fun n L => L.length = r.length ∧ L.take n = (mergeR r z).take n) (fun c x => False) (chosX r z) 8 (i_chosen r z hrz (by omega) q.1 q.2.1 q.2.2) (r) ?_ (fun _ => rfl) (fun D r => Imp.to 10 rfl (by repeat' (first | exact trivial | exact .head _ | apply List.Mem.tail | apply And.intro))) (by repeat' (first | exact trivial | exact .head _ | apply List.Mem.tail | apply And.intro)) rfl (fun D rc nr x a hx ha => ?_) (fun D x o hx => ?_) (fun D c x o hx => ?_))
    | (refine Nx1.mk ?_; obtain ⟨u, v, hu, hv, rfl⟩ := chosX_inv hrz ha; (conv => whnf))
    | (refine Nx2.mk ?_; exact hx.elim)
    | (show EndS _ _ _ _ _ _ _; refine EndS.mark 8 rfl rfl (fun o => Nx.go ?_))
    | (refine Ob.mk ⟨rfl, rfl⟩ ?_; conv => whnf)
    | (show Exists _; refine Exists.intro (x.set nr (maxB u v)) ⟨?_, Imp.to 10 rfl (by repeat' (first | exact trivial | exact .head _ | apply List.Mem.tail | apply And.intro))⟩)
    | (refine Idx.nat ?_; conv => whnf)
    | (refine Idx.is _ rfl ?_; conv => whnf)
    | (show HasP _ _ _ _ _ _; refine HasP.mk' (by repeat (first | exact .head _ | apply List.Mem.tail)) (Nx.go ?_))
    | (show RdE _ _ _ _ _ _ _; refine RdE.s (by repeat (first | exact .head _ | apply List.Mem.tail)) (by first | omega | (have hnl := (List.getElem?_eq_some_iff.1 hu).1; omega)) (fun xe hxe => Nx.go ?_))
    | (show RdB _ _ _; refine RdB.mk' (by repeat (first | exact .head _ | apply List.Mem.tail)) (Nx.go ?_))
    | (refine AR.i64 (by first | omega | (have hnl := (List.getElem?_eq_some_iff.1 hu).1; omega)) ?_; conv => whnf)
    | (refine AR.u64 (by first | omega | (have hnl := (List.getElem?_eq_some_iff.1 hu).1; omega)) ?_; conv => whnf)
    | (refine AR.u8 (by first | omega | (have hnl := (List.getElem?_eq_some_iff.1 hu).1; omega)) ?_; conv => whnf)
    | (refine Ob.mk (by first | omega | (have hnl := (List.getElem?_eq_some_iff.1 hu).1; omega)) ?_; conv => whnf)
    | (refine BR.mk (fun h => ?_) (fun h => ?_) <;> (first | rw [Bool.not_eq_true'] at h | rw [Bool.not_eq_false'] at h | skip) <;> (try rw [h]) <;> (first | replace h := of_decide_eq_true h | replace h := of_decide_eq_false h | replace h := eq_of_beq h | replace h := bne_iff_ne.1 h | replace h := beq_eq_false_iff_ne.1 h | replace h := bne_eq_false_iff_eq.1 h | skip) <;> conv => whnf)
  · exact ⟨rfl, rfl⟩
  · exact mrg_step hx hu hv
  · rw [show x = mergeR r z from mrg_end hrz (by have h9 := hx; rw [chosX_len] at h9; exact h9)]; rfl
end Go.Proofs.YtikjigkkhdkibaaGreatDoor

/- ladder: M13 -/
namespace Go.Proofs.YtikjigkkhdkibaaGreatDoor
open Go.Proofs.YtikjigkkhdkibaaGreatDoor.W
set_option maxRecDepth 100000
set_option linter.unusedVariables false
theorem c_ctoldC  : Ct Tryz.prog 94 [] [.iface 151 (.agg [])] [] (Rv (.int .i64 80)) := by
  refine Ct.of Tryz.func94 rfl (n := 11) rfl rfl rfl ?_
  conv => whnf
  repeat' first
    | (refine Ob.mk rfl ?_; conv => whnf)
    | (refine Nx.mk ?_; conv => whnf)
    | (refine BR.yes ?_; conv => whnf)
    | (refine BR.no ?_; conv => whnf)
    | (intro bk; conv => whnf)
    | (refine Ob.mk (by omega) ?_; conv => whnf)
    | (refine BR.mk (fun h => ?_) (fun h => ?_) <;> (first | rw [Bool.not_eq_true'] at h | rw [Bool.not_eq_false'] at h | skip) <;> (try rw [h]) <;> (first | replace h := of_decide_eq_true h | replace h := of_decide_eq_false h | replace h := eq_of_beq h | replace h := bne_iff_ne.1 h | replace h := beq_eq_false_iff_ne.1 h | replace h := bne_eq_false_iff_eq.1 h | skip) <;> conv => whnf)
  all_goals rfl

theorem add_run (x y : Nat) (w : World) : (callFunc 259 #[.int .u64 x, .int .u64 y, .int .u64 0]).run Tryz.prog w = .ok (.value (.tuple #[.int .u64 (((x : Int) + y + 0) % 18446744073709551616), .int .u64 (((x : Int) + y + 0) / 18446744073709551616)])) w := by
  rw [run_callFunc_extern Tryz.func259 (by kernel_rfl) (by kernel_rfl) (by kernel_rfl) (e := add64Entry) (by kernel_rfl), run_add64 x y 0 (by omega) (by omega) (by omega) (by omega)]
  simp only [Result.andThen]
def outN (a b : UInt64) (i : Nat) : Nat := if i = 0 then 0 else if i = 1 then a.toNat else a.toNat + b.toNat
theorem two_u {l : List UInt64} {a b : UInt64} {i : Nat} {x : UInt64} (hl : l = [a, b]) (h : l[i]? = some x) : outN a b (i + 1) = outN a b i + x.toNat ∧ i < 2 := by
  subst hl
  match i with
  | 0 => cases h; exact ⟨by simp [outN], by omega⟩
  | 1 => cases h; exact ⟨by simp [outN], by omega⟩
  | i + 2 => simp at h
theorem satP_big {a b : UInt64} (h : 18446744073709551616 ≤ a.toNat + b.toNat) : ((satP a b).toNat : Int) = 18446744073709551615 := by rw [satP_nat]; unfold capN; omega
theorem satP_fit {a b : UInt64} (h : a.toNat + b.toNat < 18446744073709551616) : ((satP a b).toNat : Int) = a.toNat + b.toNat := by rw [satP_nat]; unfold capN; omega
def PlusI (a b : UInt64) (i : Nat) : Prop := i ≤ 2 ∧ outN a b i < 18446744073709551616

theorem c_plus (x : Sli UInt64) (a b : UInt64) (hx : x.l = [a, b]) : Ct Tryz.prog 253 [] [x.sv] [x.f encU 1] (Rv (.int .u64 (satP a b).toNat)) := by
  have hl : x.l.length = 2 := by rw [hx]; rfl
  have ha := a.toNat_lt
  have hb := b.toNat_lt
  refine Ct.of Tryz.func253 rfl (n := 25) rfl rfl rfl ?_
  conv => whnf
  repeat' first
    | (show CallK _ _ 259 _ _ _ _; refine CallK.ext (.tup [.int .u64 (((outN a b i : Int) + xe.toNat + 0) % 18446744073709551616), .int .u64 (((outN a b i : Int) + xe.toNat + 0) / 18446744073709551616)]) (fun w => ⟨w, add_run _ _ w, Kept.refl _ _⟩) ?_; conv => whnf)
    | (have h8 := two_u hx hxe; have h9 := h8.1; show Exists _; refine Exists.intro (i + 1) ⟨?_, ?_, rfl, ⟨(by repeat (first | exact trivial | refine ⟨rfl, ?_⟩ | refine ⟨congrArg (Value.int _) (by omega), ?_⟩)), Imp.refl⟩⟩)
    | (refine Ob.mk rfl ?_; conv => whnf)
    | (refine Nx.mk ?_; conv => whnf)
    | (refine BR.yes ?_; conv => whnf)
    | (refine BR.no ?_; conv => whnf)
    | (show SemC _ _ _ (.loop (.seq (.region 3 _ _) _)) _ _ _ _ _; refine SemC.loopC (c := (.seq (.region 3 _ _) _)) (fun i : Nat => [(10, .int .i64 i), (3, .int .u64 (outN a b i))]) (fun i => PlusI a b i) (fun i => 2 - i) 0 ?_; (conv => whnf); refine LoopQ.mk ?_ ⟨(by repeat (first | exact trivial | refine ⟨rfl, ?_⟩ | refine ⟨congrArg (Value.int _) (by omega), ?_⟩)), Imp.refl⟩ (fun i hi => ?_))
    | (refine Idx.nat ?_; conv => whnf)
    | (refine Idx.is _ rfl ?_; conv => whnf)
    | (show HasP _ _ _ _ _ _; refine HasP.mk' (by repeat (first | exact .head _ | apply List.Mem.tail)) (Nx.go ?_))
    | (show RdE _ _ _ _ _ _ _; refine RdE.s (by repeat (first | exact .head _ | apply List.Mem.tail)) (by omega) (fun xe hxe => Nx.go ?_))
    | (show RdB _ _ _; refine RdB.mk' (by repeat (first | exact .head _ | apply List.Mem.tail)) (Nx.go ?_))
    | (refine AR.i64 (by omega) ?_; conv => whnf)
    | (refine AR.u64 (by omega) ?_; conv => whnf)
    | (refine AR.u8 (by omega) ?_; conv => whnf)
    | (refine Ob.mk (by omega) ?_; conv => whnf)
    | (refine BR.mk (fun h => ?_) (fun h => ?_) <;> (first | rw [Bool.not_eq_true'] at h | rw [Bool.not_eq_false'] at h | skip) <;> (try rw [h]) <;> (first | replace h := of_decide_eq_true h | replace h := of_decide_eq_false h | replace h := eq_of_beq h | replace h := bne_iff_ne.1 h | replace h := beq_eq_false_iff_ne.1 h | replace h := bne_eq_false_iff_eq.1 h | skip) <;> conv => whnf)
  · exact ⟨Nat.zero_le _, by simp [outN]⟩
  · have h8 := two_u hx hxe
    simp only [resS]
    rw [satP_big (a := a) (b := b)]
    have h9 : i = 0 ∨ i = 1 := by omega
    rcases h9 with rfl | rfl
    · have e1 : outN a b 1 = a.toNat := rfl
      have e3 : outN a b 0 = 0 := rfl
      have e2 : outN a b 1 = outN a b 0 + xe.toNat := h8.1
      omega
    · have e1 : outN a b 2 = a.toNat + b.toNat := rfl
      have e2 : outN a b 2 = outN a b 1 + xe.toNat := h8.1
      omega
  · exact ⟨by omega, by omega⟩
  · omega
  · have h8 := hi.1
    obtain rfl : i = 2 := by omega
    have e1 : outN a b 2 = a.toNat + b.toNat := rfl
    have e2 := hi.2
    simp only [resS]
    rw [satP_fit (by omega), e1]; push_cast; rfl

theorem andU_nat (m n : Nat) (hm : m < 18446744073709551616) (hn : n < 18446744073709551616) : andU (m : Int) (n : Int) = ((m &&& n : Nat) : Int) := by
  unfold andU
  have e1 : (BitVec.ofInt IntKind.u64.bits (m : Int) &&& BitVec.ofInt IntKind.u64.bits (n : Int)).toNat = m &&& n := by
    rw [BitVec.toNat_and, BitVec.toNat_ofInt, BitVec.toNat_ofInt]
    have e : ∀ k : Nat, k < 18446744073709551616 → ((k : Int) % ((2 ^ IntKind.u64.bits : Nat) : Int)).toNat = k := fun k hk => by
      rw [show ((2 ^ IntKind.u64.bits : Nat) : Int) = 18446744073709551616 from rfl]; omega
    rw [e m hm, e n hn]
  rw [e1, wrapU]
  have h1 : m &&& n ≤ m := Nat.and_le_left
  omega
theorem cols_and {c : Nat} (hc : c = 4 ∨ c = 8 ∨ c = 16 ∨ c = 32) (m : Nat) : m &&& (c - 1) = m % c := by
  rcases hc with rfl | rfl | rfl | rfl
  · exact Nat.and_two_pow_sub_one_eq_mod m 2
  · exact Nat.and_two_pow_sub_one_eq_mod m 3
  · exact Nat.and_two_pow_sub_one_eq_mod m 4
  · exact Nat.and_two_pow_sub_one_eq_mod m 5
theorem col_eq {c r : Nat} (hc : c = 4 ∨ c = 8 ∨ c = 16 ∨ c = 32) (h : UInt64) (hr : r ≤ 4) :
    andU (IntKind.u64.wrap ((h.toNat : Int).fdiv (2 ^ min (Int.toNat 32) IntKind.u64.bits) + IntKind.u64.wrap ((r : Int) * andU h.toNat 4294967295))) ((c : Int) - 1) = (colC c r h : Nat) := by
  have hh := h.toNat_lt
  have e0 : andU (h.toNat : Int) 4294967295 = ((h.toNat % 4294967296 : Nat) : Int) := by
    have := andU_nat h.toNat 4294967295 hh (by omega)
    rw [show ((4294967295 : Nat) : Int) = 4294967295 from rfl] at this
    rw [this]
    congr 1
    exact Nat.and_two_pow_sub_one_eq_mod h.toNat 32
  have hp : r * (h.toNat % 4294967296) ≤ 4 * 4294967295 := Nat.mul_le_mul hr (by omega)
  have e1 : IntKind.u64.wrap ((r : Int) * ((h.toNat % 4294967296 : Nat) : Int)) = ((r * (h.toNat % 4294967296) : Nat) : Int) := by
    rw [show (r : Int) * ((h.toNat % 4294967296 : Nat) : Int) = ((r * (h.toNat % 4294967296) : Nat) : Int) from (Int.natCast_mul _ _).symm, wrapU]; omega
  rw [fd32, e0, e1]
  have e2 : IntKind.u64.wrap (((h.toNat / 4294967296 : Nat) : Int) + ((r * (h.toNat % 4294967296) : Nat) : Int)) = (((h.toNat / 4294967296 + r * (h.toNat % 4294967296)) % 18446744073709551616 : Nat) : Int) := by
    rw [wrapU, Int.natCast_emod, Int.natCast_add]; rfl
  rw [e2, show (c : Int) - 1 = ((c - 1 : Nat) : Int) by omega, andU_nat _ _ (Nat.mod_lt _ (by decide)) (by omega), cols_and hc]
  rfl
theorem col_small {c r : Nat} (hc : c = 4 ∨ c = 8 ∨ c = 16 ∨ c = 32) (h : UInt64) : colC c r h < c ∧ c ≤ 32 := ⟨colC_lt r h (by omega), by omega⟩

theorem c_col (c r : Nat) (hc : c = 4 ∨ c = 8 ∨ c = 16 ∨ c = 32) (hr : r ≤ 4) (h : UInt64) : Ct Tryz.prog 258 [] [.int .i64 c, .int .i64 r, .int .u64 h.toNat] [] (Rv (.int .i64 (colC c r h))) := by
  have hs := col_small (r := r) hc h
  refine Ct.of Tryz.func258 rfl (n := 20) rfl rfl rfl ?_
  conv => whnf
  repeat' first
    | (show AR .i64 (IntKind.u64.wrap _) _; refine AR.is ((congrArg IntKind.i64.wrap (col_eq hc h hr)).trans (IntWalk.i64_in _ ⟨by omega, by omega⟩)) ?_; conv => whnf)
    | (show AR .u64 (_ + _) _; refine AR.mk ?_; conv => whnf)
    | (show AR .u64 (_ * _) _; refine AR.mk ?_; conv => whnf)
    | (show AR .u64 ((BitVec.toNat _ : Nat) : Int) _; refine AR.mk ?_; conv => whnf)
    | (refine Ob.mk rfl ?_; conv => whnf)
    | (refine Nx.mk ?_; conv => whnf)
    | (refine AR.i64 (by omega) ?_; conv => whnf)
    | (refine AR.u64 (by omega) ?_; conv => whnf)
    | (refine AR.u8 (by omega) ?_; conv => whnf)
    | (refine Ob.mk (by omega) ?_; conv => whnf)
  all_goals rfl
end Go.Proofs.YtikjigkkhdkibaaGreatDoor

/- ladder: M14 -/
namespace Go.Proofs.YtikjigkkhdkibaaGreatDoor
open Go.Proofs.YtikjigkkhdkibaaGreatDoor.W
set_option maxRecDepth 100000
set_option linter.unusedVariables false
theorem cp_in {α : Type} {l : List α} (n : Nat) (h : l.length = n) (a : α) : l.take (min l.length n) ++ (List.replicate n a).drop (min l.length n) = l := by
  subst h
  rw [Nat.min_self, List.drop_eq_nil_of_le (by rw [List.length_replicate]; exact Nat.le_refl _), List.append_nil, List.take_length]
theorem c_crT (r c : Int) (x : Sli UInt64) (h : cmsRight r c x.l = true) : Ct Tryz.prog 109 [] [.agg [.int .i64 r, .int .i64 c, x.sv]] [x.f encU 1] (Rv (.bool true)) := h ▸ c_cmsRight r c x
theorem cmsR {r c : Nat} {l : List UInt64} (h : cmsRight r c l = true) : (1 ≤ r ∧ r ≤ 4) ∧ (c = 4 ∨ c = 8 ∨ c = 16 ∨ c = 32) ∧ l.length = r * c ∧ l.length ≤ 128 := by
  simp only [cmsRight, isSize, Bool.and_eq_true, decide_eq_true_eq] at h
  obtain ⟨⟨h1, h2, h3⟩, h4⟩ := h
  have h5 : l.length = r * c := by exact_mod_cast h4
  have h6 : c ≤ 32 := by omega
  have h7 : r * c ≤ 4 * 32 := Nat.mul_le_mul (by omega) h6
  exact ⟨by omega, by omega, h5, by omega⟩

theorem c_cstart (k : Nat) (r c : Nat) (x : Sli UInt64) (h : cmsRight r c x.l = true) : Ct Tryz.prog 251 [] [.agg [.int .i64 r, .int .i64 c, x.sv]] [x.f encU 1] (Rs (fun y : WorkR => .tup [.raw (.pointer (some ⟨y.wb, 0, none⟩)), .raw .nilIface]) (fun y => [(y.b0, .cells [.int .i64 r, .int .i64 c, x.sv] 28), (y.b, .vec encU 1 50 y.p x.l.length y.c x.l)]) (fun y => [blkF y.wb [.int .i64 r, .int .i64 c, .vec (k + 1) y.p x.l.length y.c] 320]) (fun _ => True)) := by
  obtain ⟨hr9, hc9, hl9, hl8⟩ := cmsR h
  refine Ct.post (Ct.of Tryz.func251 rfl (n := 26) rfl rfl rfl ?_)
  conv => whnf
  repeat' first
    | (show SemO _ _ (.makeSlice _ _ _) _ _ _ _ _; refine SemO.make ?_; (conv => whnf); refine ⟨⟨UInt64, encU, 0, rfl, okU _, ?_, ?_, ?_, ?_, fun bk2 => ?_⟩⟩; rotate_left 4; conv => whnf)
    | (show SemO _ _ (.call ⟨.builtin .copy, _, _⟩) _ _ _ _ _; refine SemO.copy ?_; (conv => whnf); refine Ob.mk ⟨rfl, rfl, rfl, rfl, rfl⟩ ?_; refine ⟨⟨rfl, x.l, .fact (by repeat (first | exact .head _ | apply List.Mem.tail)), ?_⟩⟩; rw [cp_in (l := x.l) (Int.toNat (x.l.length : Int)) rfl 0]; conv => whnf)
    | (refine Ob.mk rfl ?_; conv => whnf)
    | (refine Nx.mk ?_; conv => whnf)
    | (refine BR.yes ?_; conv => whnf)
    | (refine BR.no ?_; conv => whnf)
    | (intro bk; conv => whnf)
    | (show CallK _ _ 109 _ _ _ _; refine CallK.rv (c_crT r c x h) (by repeat' (first | exact trivial | exact .head _ | apply List.Mem.tail | apply And.intro)) (Nx.go ?_))
    | (show Post _ _ _ _ _; exact Rs.post ⟨_, bk2, bk, _, _⟩ rfl (Imp.trans (Imp.recell (cs' := [.int .i64 r, .int .i64 c, .vec (k + 1) (some ⟨bk2, 0, none⟩) x.l.length x.l.length]) 2 rfl rfl) (Imp.trans (Imp.pubCells 2 rfl) (Imp.to 2 rfl (by repeat' (first | exact trivial | exact .head _ | apply List.Mem.tail | apply And.intro))))) trivial)
    | (show RdB _ _ _; refine RdB.mk' (by repeat (first | exact .head _ | apply List.Mem.tail)) (Nx.go ?_))
    | (refine AR.i64 (by omega) ?_; conv => whnf)
    | (refine AR.u64 (by omega) ?_; conv => whnf)
    | (refine AR.u8 (by omega) ?_; conv => whnf)
    | (refine Ob.mk (by omega) ?_; conv => whnf)
    | (refine BR.mk (fun h => ?_) (fun h => ?_) <;> (first | rw [Bool.not_eq_true'] at h | rw [Bool.not_eq_false'] at h | skip) <;> (try rw [h]) <;> (first | replace h := of_decide_eq_true h | replace h := of_decide_eq_false h | replace h := eq_of_beq h | replace h := bne_iff_ne.1 h | replace h := beq_eq_false_iff_ne.1 h | replace h := bne_eq_false_iff_eq.1 h | skip) <;> conv => whnf)
  · exact Int.natCast_nonneg _
  · exact Int.le_refl _
  · refine Int.le_trans (Int.mul_le_mul_of_nonneg_left (show (x.l.length : Int) ≤ 128 by omega) (Int.natCast_nonneg _)) ?_; exact of_decide_eq_true (by kernel_rfl)
  · omega

theorem c_cnew  : Ct Tryz.prog 61 [] [.int .i64 2, .int .i64 32] [] (Rs (fun z : Sli UInt64 => .tup [.agg [.int .i64 2, .int .i64 32, z.sv], .int .i64 0]) (fun _ => []) (fun z => [z.f encU 1]) (fun z => z.l = List.replicate 64 0)) := by
  refine Ct.post (Ct.of Tryz.func61 rfl (n := 21) rfl rfl rfl ?_)
  conv => whnf
  repeat' first
    | (show SemO _ _ (.makeSlice _ _ _) _ _ _ _ _; refine SemO.make ?_; (conv => whnf); refine ⟨⟨UInt64, encU, 0, rfl, okU _, ?_, ?_, ?_, ?_, fun bk2 => ?_⟩⟩; rotate_left 4; conv => whnf)
    | (show BR (!isSize 2 32) _ _; refine BR.noK rfl ?_; conv => whnf)
    | (refine Ob.mk rfl ?_; conv => whnf)
    | (refine Nx.mk ?_; conv => whnf)
    | (refine BR.yes ?_; conv => whnf)
    | (refine BR.no ?_; conv => whnf)
    | (intro bk; conv => whnf)
    | (show CallK _ _ 93 _ _ _ _; refine CallK.rv (c_isSize _ _) (by repeat' (first | exact trivial | exact .head _ | apply List.Mem.tail | apply And.intro)) (Nx.go ?_))
    | (show Post _ _ _ _ _; exact Rs.post ⟨List.replicate 64 0, some ⟨bk2, 0, none⟩, 64⟩ rfl (Imp.trans (Imp.pubS 1 rfl rfl) (Imp.fs (by repeat' (first | exact trivial | exact .head _ | apply List.Mem.tail | apply And.intro)))) rfl)
    | (refine AR.i64 (by omega) ?_; conv => whnf)
    | (refine AR.u64 (by omega) ?_; conv => whnf)
    | (refine AR.u8 (by omega) ?_; conv => whnf)
    | (refine Ob.mk (by omega) ?_; conv => whnf)
    | (refine BR.mk (fun h => ?_) (fun h => ?_) <;> (first | rw [Bool.not_eq_true'] at h | rw [Bool.not_eq_false'] at h | skip) <;> (try rw [h]) <;> (first | replace h := of_decide_eq_true h | replace h := of_decide_eq_false h | replace h := eq_of_beq h | replace h := bne_iff_ne.1 h | replace h := beq_eq_false_iff_ne.1 h | replace h := bne_eq_false_iff_eq.1 h | skip) <;> conv => whnf)
  · decide
  · decide
  · exact of_decide_eq_true (by kernel_rfl)
  · decide

theorem c_places (wb : Nat) (h : UInt64) : Ct Tryz.prog 252 [] [.raw (.pointer (some ⟨wb, 0, none⟩)), .int .u64 h.toNat] [] (Rs (fun b : Nat × Nat => .fn 257 [] [.raw (.pointer (some ⟨b.1, 0, none⟩)), .raw (.pointer (some ⟨b.2, 0, none⟩))]) (fun _ => []) (fun b => [blkF b.1 [.raw (.pointer (some ⟨wb, 0, none⟩))] 313, blkF b.2 [.int .u64 h.toNat] 50]) (fun _ => True)) := by
  refine Ct.post (Ct.of Tryz.func252 rfl (n := 6) rfl rfl rfl ?_)
  conv => whnf
  repeat' first
    | (refine Ob.mk rfl ?_; conv => whnf)
    | (refine Nx.mk ?_; conv => whnf)
    | (intro bk; conv => whnf)
    | (show Post _ _ _ _ _; refine Rs.post (_, _) rfl (Imp.trans (Imp.pubCells 0 rfl) (Imp.trans (Imp.pubCells 1 rfl) (Imp.fs ?_))) trivial)
    | (refine Ob.mk (by omega) ?_; conv => whnf)
  exact ⟨.tail _ (.head _), .head _, trivial⟩

def placesX (r c : Nat) (h : UInt64) : List (List SV) := (List.range r).map fun (i : Nat) => [.int .i64 ((i * c + colC c i h : Nat) : Int)]
theorem placesX_len (r c : Nat) (h : UInt64) : (placesX r c h).length = r := by simp [placesX]
theorem placesX_at {r c i : Nat} {h : UInt64} (hi : i < r) : ((placesX r c h).map dens)[i]? = some (dens [.int .i64 ((i : Int) * c + colC c i h)]) := by
  rw [placesX, List.map_map, List.getElem?_map, List.getElem?_range hi]
  show some (dens [SV.int .i64 ((i * c + colC c i h : Nat) : Int)]) = _
  rw [Int.natCast_add, Int.natCast_mul]
theorem placesX_inv {r c i : Nat} {h : UInt64} {x : List SV} (hx : (placesX r c h)[i]? = some x) : i < r ∧ x = [.int .i64 ((i * c + colC c i h : Nat) : Int)] := by
  have hi : i < r := by have := (List.getElem?_eq_some_iff.1 hx).1; rwa [placesX_len] at this
  rw [placesX, List.getElem?_map, List.getElem?_range hi] at hx
  exact ⟨hi, by simpa using hx.symm⟩
theorem idx_small {r c i : Nat} (hr : r ≤ 4) (hc : c ≤ 32) (hi : i < r) (h : UInt64) (h0 : 0 < c) : i * c + colC c i h < r * c ∧ r * c ≤ 128 ∧ ((i : Int) * c) = ((i * c : Nat) : Int) := ⟨cell_lt hi (colC_lt i h h0), Nat.mul_le_mul hr hc, (Int.natCast_mul _ _).symm⟩

theorem i_places (r c : Nat) (hr : r ≤ 4) (hc : c = 4 ∨ c = 8 ∨ c = 16 ∨ c = 32) (u : UInt64) (v : SV) (wb b1 b2 : Nat) : It Tryz.prog 257 [] [.raw (.pointer (some ⟨b1, 0, none⟩)), .raw (.pointer (some ⟨b2, 0, none⟩))] [blkF wb [.int .i64 r, .int .i64 c, v] 320, blkF b1 [.raw (.pointer (some ⟨wb, 0, none⟩))] 313, blkF b2 [.int .u64 u.toNat] 50] (fixd (placesX r c u)) (fun _ _ => True) := by
  refine It.of Tryz.func257 rfl (n := 33) rfl rfl rfl (fun lp => ?_)
  conv => whnf
  repeat' first
    | (refine Ob.mk rfl ?_; conv => whnf)
    | (refine Nx.mk ?_; conv => whnf)
    | (refine BR.yes ?_; conv => whnf)
    | (refine BR.no ?_; conv => whnf)
    | (show CallK _ _ 258 _ _ _ _; refine CallK.rv (c_col c j hc (by omega) u) (by repeat' (first | exact trivial | exact .head _ | apply List.Mem.tail | apply And.intro)) (Nx.go ?_))
    | (show SemC _ _ _ (.loop (.seq (.region 1 _ _) _)) _ _ _ _ _; refine SemC.loopB (c := (.seq (.region 1 _ _) _)) (fun j : Nat => [(10, .int .i64 j)]) (fun j => [(0, .seq lp (fixd (placesX r c u)) (some j))]) (fun j => j ≤ r) (fun j => r - j) 0 ?_; (conv => whnf); refine LoopQ.mk ?_ ⟨(by repeat (first | exact trivial | refine ⟨rfl, ?_⟩ | refine ⟨congrArg (Value.int _) (by omega), ?_⟩)), Imp.refl⟩ (fun j hi => ?_))
    | (show Exists _; refine Exists.intro (j + 1) ⟨?_, ?_, rfl, ⟨(by repeat (first | exact trivial | refine ⟨rfl, ?_⟩ | refine ⟨congrArg (Value.int _) (by omega), ?_⟩)), Imp.refl⟩⟩)
    | (refine Ob.mk ⟨rfl, YdX.fix ?_⟩ ⟨Nx.go ?_, Nx.go ?_⟩)
    | (exact ⟨_, _, rfl, Or.inl rfl, trivial⟩)
    | (refine ⟨_, _, rfl, Or.inr (fixd_end ?_), trivial⟩)
    | (refine SemC.draw 3 [] [.t 0, .t 1, .t 2, .t 3, .t 4, .t 5, .t 6, .t 7, .t 8, .t 9, .t 10, .t 11, .t 12, .t 13, .t 14, .s 15, .t 16, .l 17, .t 18] (by kernel_rfl) (by kernel_rfl) ?_; conv => whnf)
    | (show RdB _ _ _; refine RdB.mk' (by repeat (first | exact .head _ | apply List.Mem.tail)) (Nx.go ?_))
    | (refine AR.i64 (by first | omega | (have hs := idx_small (c := c) (i := j) hr (by omega) (by omega) u (by omega); omega)) ?_; conv => whnf)
    | (refine AR.u64 (by first | omega | (have hs := idx_small (c := c) (i := j) hr (by omega) (by omega) u (by omega); omega)) ?_; conv => whnf)
    | (refine AR.u8 (by first | omega | (have hs := idx_small (c := c) (i := j) hr (by omega) (by omega) u (by omega); omega)) ?_; conv => whnf)
    | (refine Ob.mk (by first | omega | (have hs := idx_small (c := c) (i := j) hr (by omega) (by omega) u (by omega); omega)) ?_; conv => whnf)
    | (refine BR.mk (fun h => ?_) (fun h => ?_) <;> (first | rw [Bool.not_eq_true'] at h | rw [Bool.not_eq_false'] at h | skip) <;> (try rw [h]) <;> (first | replace h := of_decide_eq_true h | replace h := of_decide_eq_false h | replace h := eq_of_beq h | replace h := bne_iff_ne.1 h | replace h := beq_eq_false_iff_ne.1 h | replace h := bne_eq_false_iff_eq.1 h | skip) <;> conv => whnf)
  · exact Nat.zero_le _
  · exact placesX_at (by omega)
  · omega
  · omega
  · rw [List.length_map, placesX_len]; omega
end Go.Proofs.YtikjigkkhdkibaaGreatDoor

/- ladder: M15 -/
namespace Go.Proofs.YtikjigkkhdkibaaGreatDoor
open Go.Proofs.YtikjigkkhdkibaaGreatDoor.W
set_option maxRecDepth 100000
set_option linter.unusedVariables false
/-- how far the counters have come -/
def AddCI (r c : Nat) (h n : UInt64) (x L : List UInt64) (k : Nat) : Prop := L.length = x.length ∧ L = (List.range k).foldl (addC c h n) x
theorem AddCI.step {r c : Nat} {h n : UInt64} {x L : List UInt64} {k : Nat} {a : UInt64} (hi : AddCI r c h n x L k) (ha : L[k * c + colC c k h]? = some a) : AddCI r c h n x (L.set (k * c + colC c k h) (satP a n)) (k + 1) := by
  refine ⟨by rw [List.length_set]; exact hi.1, ?_⟩
  rw [List.range_succ, List.foldl_append, ← hi.2]
  simp only [List.foldl_cons, List.foldl_nil, addC]
  refine List.ext_getElem? fun i => ?_
  rw [List.getElem?_modify, List.getElem?_set]
  by_cases hk : k * c + colC c k h = i
  · subst hk; rw [if_pos rfl, if_pos (List.getElem?_eq_some_iff.1 ha).1, ha]; simp
  · rw [if_neg hk]; simp [hk]
theorem cell_in {r c k : Nat} {h : UInt64} {l : List UInt64} (hl : l.length = r * c) (hc : c = 4 ∨ c = 8 ∨ c = 16 ∨ c = 32) (hk : k < r) : k * c + colC c k h < l.length := by rw [hl]; exact cell_lt hk (colC_lt k h (by omega))
/-- an iterator over a consumer's work -/
theorem placesF {a b c : Fact} {Φ : Facts} (h1 : a ∈ Φ) (h2 : b ∈ Φ) (h3 : c ∈ Φ) : SubK [a, b, c] Φ := ⟨h1, h2, h3, trivial⟩

theorem c_cAdd (r c : Nat) (s0 : Sli UInt64) (h : cmsRight r c s0.l = true) (u n : UInt64) : Ct Tryz.prog 247 [] [.agg [.int .i64 r, .int .i64 c, s0.sv], .int .u64 u.toNat, .int .u64 n.toNat] [s0.f encU 1] (Rs (fun z : Sli UInt64 => .tup [.agg [.int .i64 r, .int .i64 c, z.sv], .int .i64 0]) (fun _ => []) (fun z => [z.f encU 1]) (fun z => z.l = addsC r c u n s0.l)) := by
  obtain ⟨hr9, hc9, hl9, hl8⟩ := cmsR h
  refine Ct.post (Ct.of Tryz.func247 rfl (n := 47) rfl rfl rfl ?_)
  conv => whnf
  repeat' first
    | (show SemO _ _ (.buildSlice _ _ #[(0, .tmp 38), (1, .tmp 39)]) _ _ _ _ _; refine SemO.lit ?_; (conv => whnf); show BsV _ _ _ _ _; refine BsV.s [x8, n] (by repeat (first | exact .nil | refine .cons (by first | rfl | exact encB_of (by omega) | exact encU_U (by omega)) ?_)) (fun xo _ => okU xo) (fun ys hys => Nx.go ?_))
    | (refine Ob.mk ⟨rfl, rfl, rfl, rfl, by have h9 := (cell_in (h := u) (hx.1.trans hl9) hc9 hnr); have h8 := hx.1; omega⟩ ?_; conv => whnf)
    | (refine Ob.mk ⟨rfl, rfl, by have h9 := (cell_in (h := u) (hx.1.trans hl9) hc9 hnr); have h8 := hx.1; omega⟩ ?_; conv => whnf)
    | (have h9 := (cell_in (h := u) (hx.1.trans hl9) hc9 hnr); have h8 := hx.1; show SemO _ _ (.store _ _ _) _ _ _ _ _; refine SemO.storeVel ?_; (conv => whnf); refine Ob.mk ⟨rfl, rfl, rfl, rfl, rfl, Nat.le_of_ble_eq_true rfl, by omega⟩ ?_)
    | (intro x9 hx9; obtain rfl := Option.some.inj (hx8.symm.trans hx9); show StQ _ _ 0 _ _; refine StQ.mk' (satP x8 n) rfl ?_; conv => whnf)
    | (intro x8 hx8; conv => whnf)
    | (refine Ob.mk rfl ?_; conv => whnf)
    | (refine Nx.mk ?_; conv => whnf)
    | (refine BR.yes ?_; conv => whnf)
    | (refine BR.no ?_; conv => whnf)
    | (intro bk; conv => whnf)
    | (show CallK _ _ 251 _ _ _ _; refine CallK.rs (c_cstart 3 r c s0 h) (by repeat' (first | exact trivial | exact .head _ | apply List.Mem.tail | apply And.intro)) (fun y hy => ⟨rfl, Nx.go ?_⟩))
    | (show CallK _ _ 252 _ _ _ _; refine CallK.rf (c_places y.wb u) (by repeat' (first | exact trivial | exact .head _ | apply List.Mem.tail | apply And.intro)) (fun q hq => Nx.go ?_))
    | (show CallK _ _ 253 _ _ _ _; refine CallK.rv (c_plus ys x8 n hys) (by repeat' (first | exact trivial | exact .head _ | apply List.Mem.tail | apply And.intro)) (Nx.go ?_))
    | (show SemC _ _ _ (.rangeFunc _ _ (.region 5 _ _) _) _ _ _ _ _; refine SemC.rangeC (σ := List UInt64) (fun lb L => lb.set 4 (y.b, .vec encU 1 50 y.p s0.l.length y.c L)) (fun k L => AddCI r c u n s0.l L k) (fun c x => False) (placesX r c u) 6 (i_places r c (by omega) hc9 u (.vec 4 y.p s0.l.length y.c) y.wb q.1 q.2) (s0.l) ?_ (fun _ => rfl) (fun D r => Imp.to 8 rfl (by repeat' (first | exact trivial | exact .head _ | apply List.Mem.tail | apply And.intro))) (by repeat' (first | exact trivial | exact .head _ | apply List.Mem.tail | apply And.intro)) rfl (fun D rc nr x a hx ha => ?_) (fun D x o hx => ?_) (fun D c x o hx => ?_))
    | (refine Nx1.mk ?_; obtain ⟨hnr, rfl⟩ := placesX_inv ha; (conv => whnf))
    | (refine Nx2.mk ?_; exact hx.elim)
    | (show EndS _ _ _ _ _ _ _; refine EndS.mark 6 rfl rfl (fun o => Nx.go ?_))
    | (refine Ob.mk ⟨rfl, rfl⟩ ?_; conv => whnf)
    | (show Exists _; refine Exists.intro (x.set (nr * c + colC c nr u) (satP x8 n)) ⟨?_, Imp.to 8 rfl (by repeat' (first | exact trivial | exact .head _ | apply List.Mem.tail | apply And.intro))⟩)
    | (show Post _ _ _ _ _; exact Rs.post ⟨x, y.p, y.c⟩ (by show SV.den _ = SV.den (.tup [.agg [.int .i64 r, .int .i64 c, .raw (.slice y.p x.length y.c)], .int .i64 0]); rw [hx.1]; rfl) (Imp.trans (Imp.pubS 4 rfl hx.1) (Imp.fs (by repeat' (first | exact trivial | exact .head _ | apply List.Mem.tail | apply And.intro)))) (by have h9 := hx.2; rw [placesX_len] at h9; exact h9))
    | (refine SemC.draw 6 [] [.t 0, .t 1, .t 2, .t 3, .t 4, .t 5, .t 6, .t 7, .t 8, .t 9, .t 10, .t 11, .t 12, .t 13, .t 14, .s 15, .s 16, .t 17, .l 18] (by kernel_rfl) (by kernel_rfl) ?_; conv => whnf)
    | (refine Idx.nat ?_; conv => whnf)
    | (refine Idx.is _ rfl ?_; conv => whnf)
    | (show HasP _ _ _ _ _ _; refine HasP.mk' (by repeat (first | exact .head _ | apply List.Mem.tail)) (Nx.go ?_))
    | (show RdE _ _ _ _ _ _ _; refine RdE.s (by repeat (first | exact .head _ | apply List.Mem.tail)) (by omega) (fun xe hxe => Nx.go ?_))
    | (show RdB _ _ _; refine RdB.mk' (by repeat (first | exact .head _ | apply List.Mem.tail)) (Nx.go ?_))
    | (refine AR.i64 (by omega) ?_; conv => whnf)
    | (refine AR.u64 (by omega) ?_; conv => whnf)
    | (refine AR.u8 (by omega) ?_; conv => whnf)
    | (refine Ob.mk (by omega) ?_; conv => whnf)
    | (refine BR.mk (fun h => ?_) (fun h => ?_) <;> (first | rw [Bool.not_eq_true'] at h | rw [Bool.not_eq_false'] at h | skip) <;> (try rw [h]) <;> (first | replace h := of_decide_eq_true h | replace h := of_decide_eq_false h | replace h := eq_of_beq h | replace h := bne_iff_ne.1 h | replace h := beq_eq_false_iff_ne.1 h | replace h := bne_eq_false_iff_eq.1 h | skip) <;> conv => whnf)
  · exact ⟨rfl, rfl⟩
  · exact hx.step hx8
end Go.Proofs.YtikjigkkhdkibaaGreatDoor

/- ladder: M16 -/
namespace Go.Proofs.YtikjigkkhdkibaaGreatDoor
open Go.Proofs.YtikjigkkhdkibaaGreatDoor.W
set_option maxRecDepth 100000
set_option linter.unusedVariables false
/-- a call ahead of which blocks of one's own are given up; facts come back -/
theorem CallK.rfP {P : Program} {lb lb' : LBs} {Φ Φ' : Facts} {f : FuncId} {args args' : List SV} {Φ0 : Facts} {β : Type} {res : β → SV} {fs : β → Facts} {pr : β → Prop} {q : SV → LBs → Facts → Prop} (hi : Imp P lb Φ lb' Φ') (h : Ct P f [] args' Φ0 (Rs res (fun _ => []) fs pr)) (ha : dens args' = dens args) (hΦ : SubK Φ0 Φ') (hq : ∀ x, pr x → appK (fs x) Φ' fun Φ' => q (res x) lb' Φ') (hf : isFn P f := by exact fun _ _ => rfl) : CallK P none f args lb Φ q := by
  refine ⟨.inl ⟨hf, ⟨fun ω w hr => ?_⟩⟩⟩
  have h1 := (CallS.rs (kp := none) (q := q) (lb := lb') h hΦ.ok (fun x hx => ⟨rfl, by rw [appK_eq, List.append_nil]; exact hq x hx⟩)).h ω w (hi ω w hr)
  rw [ha] at h1
  exact Calls.mono h1 fun e w' ⟨v, lb', Φ', he, hq, hr, _⟩ => ⟨v, lb', Φ', he, hq, hr, trivial⟩
def joinL (r m : Nat) (f : Nat → Nat → UInt64) : List UInt64 := (List.range r).flatMap fun i => (List.range m).map (f i)
theorem joinL_snoc (r m : Nat) (f : Nat → Nat → UInt64) : joinL (r + 1) m f = joinL r m f ++ (List.range m).map (f r) := by rw [joinL, List.range_succ, List.flatMap_append]; simp [joinL]
theorem joinL_len (r m : Nat) (f : Nat → Nat → UInt64) : (joinL r m f).length = r * m := by
  induction r with
  | zero => simp [joinL]
  | succ r ih => rw [joinL_snoc, List.length_append, ih, Nat.succ_mul]; simp
def JoinO (r m : Nat) (f : Nat → Nat → UInt64) (j : CatJ) : Prop := j.i ≤ r ∧ j.n = j.l.length ∧ j.l = joinL j.i m f
def JoinN (i m : Nat) (f : Nat → Nat → UInt64) (k : CatJ) : Prop := k.i ≤ m ∧ k.n = k.l.length ∧ k.l = joinL i m f ++ (List.range k.i).map (f i)
theorem JoinN.len {r i m : Nat} {f : Nat → Nat → UInt64} {k : CatJ} (h : JoinN i m f k) (hi : i < r) (hr : r ≤ 4) (hm : m ≤ 32) : k.n ≤ 128 ∧ i * m + m ≤ 128 := by
  have h1 := congrArg List.length h.2.2
  rw [List.length_append, joinL_len, List.length_map, List.length_range] at h1
  have h2 : i * m ≤ 3 * 32 := Nat.mul_le_mul (by omega) hm
  have := h.1; have := h.2.1
  omega
theorem JoinN.step {i m : Nat} {f : Nat → Nat → UInt64} {k : CatJ} (h : JoinN i m f k) (hk : k.i < m) {a : UInt64} (ha : a = f i k.i) {b n c : Nat} {p : Option Addr} {l : List UInt64} (hl : l = [a]) (hn : n = k.n + l.length) : JoinN i m f ⟨k.i + 1, b, p, n, c, k.l ++ l⟩ := by
  subst hl
  refine ⟨hk, by show n = (k.l ++ [a]).length; rw [hn, List.length_append, h.2.1], ?_⟩
  show k.l ++ [a] = joinL i m f ++ (List.range (k.i + 1)).map (f i)
  rw [List.range_succ, List.map_append, h.2.2, List.append_assoc, ha]; rfl
theorem JoinO.step {r m : Nat} {f : Nat → Nat → UInt64} {j k : CatJ} (h : JoinO r m f j) (hj : j.i < r) (hk : JoinN j.i m f k) (he : ¬ k.i < m) : JoinO r m f ⟨j.i + 1, k.b, k.p, k.n, k.c, k.l⟩ := by
  refine ⟨hj, hk.2.1, ?_⟩
  have h1 := hk.1
  have e : k.i = m := by omega
  show k.l = joinL (j.i + 1) m f
  rw [joinL_snoc, hk.2.2, e]
theorem getD_at {l : List UInt64} {i : Nat} {x : UInt64} (h : l[i]? = some x) : l.getD i 0 = x := by rw [List.getD_eq_getElem?_getD, h]; rfl
def fM (c : Nat) (x y : List UInt64) (i j : Nat) : UInt64 := satP (x.getD (i * c + j) 0) (y.getD (i * c + j) 0)
def fL (c d : Nat) (x : List UInt64) (i j : Nat) : UInt64 := satP (x.getD (i * c + j) 0) (x.getD (i * c + j + d) 0)
theorem join_merge {r c : Nat} {x y : List UInt64} (hx : x.length = r * c) (hy : y.length = r * c) : joinL r c (fM c x y) = mergeC x y := by
  refine List.ext_getElem? fun p => ?_
  by_cases hp : p < r * c
  · obtain ⟨c1, c2, c3⟩ := cell_dm hp
    have h1 : (joinL r c (fM c x y))[p / c * c + p % c]? = _ := flat_at (m := c) (f := fun i => (List.range c).map (fM c x y i)) (fun i => by simp) c1 c2
    rw [c3] at h1
    rw [h1, List.getElem?_map, List.getElem?_range c2, mergeC, List.getElem?_zipWith, List.getElem?_eq_getElem (by omega : p < x.length), List.getElem?_eq_getElem (by omega : p < y.length)]
    simp only [Option.map_some, fM, c3]
    rw [getD_at (List.getElem?_eq_getElem (by omega : p < x.length)), getD_at (List.getElem?_eq_getElem (by omega : p < y.length))]
  · rw [List.getElem?_eq_none (by rw [joinL_len]; omega), List.getElem?_eq_none (by rw [mergeC, List.length_zipWith]; omega)]
theorem ij_small {r c i j : Nat} (hr : r ≤ 4) (hc : c ≤ 32) (hi : i < r) (hj : j < c) : i * c + j < r * c ∧ r * c ≤ 128 ∧ ((i : Int) * c) = ((i * c : Nat) : Int) := ⟨cell_lt hi hj, Nat.mul_le_mul hr hc, (Int.natCast_mul _ _).symm⟩

theorem c_mc (r c : Nat) (hr : r ≤ 4) (hc : c ≤ 32) (x y : Sli UInt64) (hx : x.l.length = r * c) (hy : y.l.length = r * c) (b1 b2 : Nat) (i j : Nat) (hi : i < r) (hj : j < c) : Ct Tryz.prog 256 [] [.int .i64 i, .int .i64 j, .raw (.pointer (some ⟨b1, 0, none⟩)), .raw (.pointer (some ⟨b2, 0, none⟩))] [blkF b1 [.int .i64 r, .int .i64 c, x.sv] 28, blkF b2 [.int .i64 r, .int .i64 c, y.sv] 28, x.f encU 1, y.f encU 1] (Rs (fun z : Sli UInt64 => z.sv) (fun _ => []) (fun z => [z.f encU 1]) (fun z => z.l = [x.l.getD (i * c + j) 0, y.l.getD (i * c + j) 0])) := by
  refine Ct.post (Ct.of Tryz.func256 rfl (n := 25) rfl rfl rfl ?_)
  conv => whnf
  repeat' first
    | (show SemO _ _ (.buildSlice _ _ #[(0, .tmp 18), (1, .tmp 23)]) _ _ _ _ _; refine SemO.lit ?_; (conv => whnf); show BsV _ _ _ _ _; refine BsV.s [xe, ye] (by repeat (first | exact .nil | refine .cons (by first | rfl | exact encB_of (by omega) | exact encU_U (by omega)) ?_)) (fun xo _ => okU xo) (fun ys hys => Nx.go ?_))
    | (have hs := ij_small (i := i) (j := j) hr hc hi hj; refine Idx.is (i * c + j) (by omega) ?_; conv => whnf)
    | (have hs := ij_small (i := i) (j := j) hr hc hi hj; show RdE _ x.p _ _ _ _ _; refine RdE.s (x := x) (by repeat (first | exact .head _ | apply List.Mem.tail)) (by omega) (fun xe hxe => Nx.go ?_))
    | (have hs := ij_small (i := i) (j := j) hr hc hi hj; show RdE _ y.p _ _ _ _ _; refine RdE.s (x := y) (by repeat (first | exact .head _ | apply List.Mem.tail)) (by omega) (fun ye hye => Nx.go ?_))
    | (refine Ob.mk rfl ?_; conv => whnf)
    | (refine Nx.mk ?_; conv => whnf)
    | (intro bk; conv => whnf)
    | (show Post _ _ _ _ _; exact Rs.post ys rfl (Imp.fs (by repeat' (first | exact trivial | exact .head _ | apply List.Mem.tail | apply And.intro))) (by rw [hys, getD_at hxe, getD_at hye]))
    | (refine SemC.draw 2 [] [.t 0, .t 1, .t 2, .t 3, .t 4, .t 5, .t 6, .t 7, .t 8, .t 9, .l 10, .t 11] (by kernel_rfl) (by kernel_rfl) ?_; conv => whnf)
    | (refine Idx.nat ?_; conv => whnf)
    | (refine Idx.is _ rfl ?_; conv => whnf)
    | (show HasP _ _ _ _ _ _; refine HasP.mk' (by repeat (first | exact .head _ | apply List.Mem.tail)) (Nx.go ?_))
    | (show RdE _ _ _ _ _ _ _; refine RdE.s (by repeat (first | exact .head _ | apply List.Mem.tail)) (by first | omega | (have hs := ij_small (i := i) (j := j) hr hc hi hj; omega)) (fun xe hxe => Nx.go ?_))
    | (show RdB _ _ _; refine RdB.mk' (by repeat (first | exact .head _ | apply List.Mem.tail)) (Nx.go ?_))
    | (refine AR.i64 (by first | omega | (have hs := ij_small (i := i) (j := j) hr hc hi hj; omega)) ?_; conv => whnf)
    | (refine AR.u64 (by first | omega | (have hs := ij_small (i := i) (j := j) hr hc hi hj; omega)) ?_; conv => whnf)
    | (refine AR.u8 (by first | omega | (have hs := ij_small (i := i) (j := j) hr hc hi hj; omega)) ?_; conv => whnf)
    | (refine Ob.mk (by first | omega | (have hs := ij_small (i := i) (j := j) hr hc hi hj; omega)) ?_; conv => whnf)

theorem c_lc (r c d : Nat) (hr : r ≤ 4) (hc : c ≤ 32) (x : Sli UInt64) (hx : x.l.length = r * c) (b1 b2 : Nat) (i j : Nat) (hi : i < r) (hj9 : j + d < c) : Ct Tryz.prog 255 [] [.int .i64 i, .int .i64 j, .raw (.pointer (some ⟨b1, 0, none⟩)), .raw (.pointer (some ⟨b2, 0, none⟩))] [blkF b1 [.int .i64 r, .int .i64 c, x.sv] 28, blkF b2 [.int .i64 d] 3, x.f encU 1] (Rs (fun z : Sli UInt64 => z.sv) (fun _ => []) (fun z => [z.f encU 1]) (fun z => z.l = [x.l.getD (i * c + j) 0, x.l.getD (i * c + j + d) 0])) := by
  have hj : j < c := by omega
  have hs9 := ij_small (j := j + d) hr hc hi hj9
  refine Ct.post (Ct.of Tryz.func255 rfl (n := 27) rfl rfl rfl ?_)
  conv => whnf
  repeat' first
    | (show SemO _ _ (.buildSlice _ _ #[(0, .tmp 18), (1, .tmp 25)]) _ _ _ _ _; refine SemO.lit ?_; (conv => whnf); show BsV _ _ _ _ _; refine BsV.s [xe, ye] (by repeat (first | exact .nil | refine .cons (by first | rfl | exact encB_of (by omega) | exact encU_U (by omega)) ?_)) (fun xo _ => okU xo) (fun ys hys => Nx.go ?_))
    | (have hs := ij_small (i := i) (j := j) hr hc hi hj; refine Idx.is (i * c + j) (by omega) ?_; conv => whnf)
    | (have hs := ij_small (i := i) (j := j) hr hc hi hj; refine Idx.is (i * c + j + d) (by omega) ?_; conv => whnf)
    | (have hs := ij_small (i := i) (j := j) hr hc hi hj; show RdE _ x.p _ _ _ (i * c + j) _; refine RdE.s (x := x) (by repeat (first | exact .head _ | apply List.Mem.tail)) (by omega) (fun xe hxe => Nx.go ?_))
    | (have hs := ij_small (i := i) (j := j) hr hc hi hj; show RdE _ x.p _ _ _ (i * c + j + d) _; refine RdE.s (x := x) (by repeat (first | exact .head _ | apply List.Mem.tail)) (by omega) (fun ye hye => Nx.go ?_))
    | (refine Ob.mk rfl ?_; conv => whnf)
    | (refine Nx.mk ?_; conv => whnf)
    | (intro bk; conv => whnf)
    | (show Post _ _ _ _ _; exact Rs.post ys rfl (Imp.fs (by repeat' (first | exact trivial | exact .head _ | apply List.Mem.tail | apply And.intro))) (by rw [hys, getD_at hxe, getD_at hye]))
    | (refine SemC.draw 2 [] [.t 0, .t 1, .t 2, .t 3, .t 4, .t 5, .t 6, .t 7, .t 8, .t 9, .t 10, .t 11, .l 12, .t 13] (by kernel_rfl) (by kernel_rfl) ?_; conv => whnf)
    | (refine Idx.nat ?_; conv => whnf)
    | (refine Idx.is _ rfl ?_; conv => whnf)
    | (show HasP _ _ _ _ _ _; refine HasP.mk' (by repeat (first | exact .head _ | apply List.Mem.tail)) (Nx.go ?_))
    | (show RdE _ _ _ _ _ _ _; refine RdE.s (by repeat (first | exact .head _ | apply List.Mem.tail)) (by first | omega | (have hs := ij_small (i := i) (j := j) hr hc hi hj; omega)) (fun xe hxe => Nx.go ?_))
    | (show RdB _ _ _; refine RdB.mk' (by repeat (first | exact .head _ | apply List.Mem.tail)) (Nx.go ?_))
    | (refine AR.i64 (by first | omega | (have hs := ij_small (i := i) (j := j) hr hc hi hj; omega)) ?_; conv => whnf)
    | (refine AR.u64 (by first | omega | (have hs := ij_small (i := i) (j := j) hr hc hi hj; omega)) ?_; conv => whnf)
    | (refine AR.u8 (by first | omega | (have hs := ij_small (i := i) (j := j) hr hc hi hj; omega)) ?_; conv => whnf)
    | (refine Ob.mk (by first | omega | (have hs := ij_small (i := i) (j := j) hr hc hi hj; omega)) ?_; conv => whnf)

theorem c_joinM (r c : Nat) (hr : r ≤ 4) (hc : c ≤ 32) (x y : Sli UInt64) (hx : x.l.length = r * c) (hy : y.l.length = r * c) (v : SV) (wb b1 b2 : Nat) : Ct Tryz.prog 254 [] [.raw (.pointer (some ⟨wb, 0, none⟩)), .int .i64 c, .fn 256 [] [.raw (.pointer (some ⟨b1, 0, none⟩)), .raw (.pointer (some ⟨b2, 0, none⟩))]] [blkF wb [.int .i64 r, .int .i64 c, v] 320, blkF b1 [.int .i64 r, .int .i64 c, x.sv] 28, blkF b2 [.int .i64 r, .int .i64 c, y.sv] 28, x.f encU 1, y.f encU 1] (Rs (fun z : Sli UInt64 => .agg [.int .i64 r, .int .i64 c, z.sv]) (fun _ => []) (fun z => [z.f encU 1]) (fun z => z.l = joinL r c (fM c x.l y.l))) := by
  refine Ct.post (Ct.of Tryz.func254 rfl (n := 40) rfl rfl rfl ?_)
  conv => whnf
  repeat' first
    | (show SemO _ _ (.buildSlice _ _ #[(0, .tmp 27)]) _ _ _ _ _; refine SemO.lit ?_; (conv => whnf); show BsV _ _ _ _ _; refine BsV.s [(fM c x.l y.l) j.i k.i] (by repeat (first | exact .nil | refine .cons (by first | rfl | exact encB_of (by omega) | exact encU_U (by omega)) ?_)) (fun xo _ => okU xo) (fun ys hys => Nx.go ?_))
    | (show SemO _ _ (.call ⟨.builtin .append, _, _⟩) _ _ _ _ _; refine SemO.appendVec ?_; (conv => whnf); refine Ob.mk ⟨rfl, rfl, rfl, rfl, rfl⟩ ?_)
    | (show AppV _ _ _ _ _ _ _ _ _ _ _ _ _ _; refine ⟨rfl, _, .fact (by repeat (first | exact .head _ | apply List.Mem.tail)), app_le (N := 1048576) ?_ (of_decide_eq_true (by kernel_rfl)), ?_, fun bv pv cv hcv => Nx.go ?_⟩)
    | (refine Ob.mk rfl ?_; conv => whnf)
    | (refine Nx.mk ?_; conv => whnf)
    | (refine BR.yes ?_; conv => whnf)
    | (refine BR.no ?_; conv => whnf)
    | (intro bk; conv => whnf)
    | (show CallK _ _ 256 _ _ _ _; refine CallK.rf (c_mc r c hr hc x y hx hy b1 b2 j.i k.i (by omega) (by omega)) (by repeat' (first | exact trivial | exact .head _ | apply List.Mem.tail | apply And.intro)) (fun u hu => Nx.go ?_))
    | (show CallK _ _ 253 _ _ _ _; refine CallK.rv (c_plus u _ _ hu) (by repeat' (first | exact trivial | exact .head _ | apply List.Mem.tail | apply And.intro)) (Nx.go ?_))
    | (show SemC _ _ _ (.loop (.seq (.region 3 _ _) _)) _ _ _ _ _; refine SemC.loopN (c := (.seq (.region 3 _ _) _)) (fun j : CatJ => [(15, .int .i64 j.i), (7, .vec 1 j.p j.n j.c)]) (fun lb j => lb ++ [(j.b, .vec encU 1 50 j.p j.n j.c j.l)]) (fun j => JoinO r c (fM c x.l y.l) j) (fun j => r - j.i) ⟨0, 0, none, 0, 0, []⟩ ?_; (conv => whnf); refine LoopQ.mk ?_ ⟨(by repeat (first | exact trivial | refine ⟨rfl, ?_⟩ | refine ⟨congrArg (Value.int _) (by omega), ?_⟩)), (Imp.nilVec encU 1 50)⟩ (fun j hi => ?_))
    | (show Exists _; refine Exists.intro (⟨j.i + 1, k.b, k.p, k.n, k.c, k.l⟩) ⟨?_, ?_, rfl, ⟨(by repeat (first | exact trivial | refine ⟨rfl, ?_⟩ | refine ⟨congrArg (Value.int _) (by omega), ?_⟩)), Imp.to 2 rfl (by repeat' (first | exact trivial | exact .head _ | apply List.Mem.tail | apply And.intro))⟩⟩)
    | (show SemC _ _ _ (.loop (.seq (.region 6 _ _) _)) _ _ _ _ _; refine SemC.loopN (c := (.seq (.region 6 _ _) _)) (fun k : CatJ => [(19, .int .i64 k.i), (7, .vec 1 k.p k.n k.c)]) (fun lb k => lb.set 1 (k.b, .vec encU 1 50 k.p k.n k.c k.l)) (fun k => JoinN j.i c (fM c x.l y.l) k) (fun k => c - k.i) ⟨0, j.b, j.p, j.n, j.c, j.l⟩ ?_; (conv => whnf); refine LoopQ.mk ?_ ⟨(by repeat (first | exact trivial | refine ⟨rfl, ?_⟩ | refine ⟨congrArg (Value.int _) (by omega), ?_⟩)), (Imp.eq rfl)⟩ (fun k hi => ?_))
    | (show Exists _; refine Exists.intro (⟨k.i + 1, bv, pv, k.n + ys.l.length, cv, k.l ++ ys.l⟩) ⟨?_, ?_, rfl, ⟨(by repeat (first | exact trivial | refine ⟨rfl, ?_⟩ | refine ⟨congrArg (Value.int _) (by omega), ?_⟩)), Imp.to 2 rfl (by repeat' (first | exact trivial | exact .head _ | apply List.Mem.tail | apply And.intro))⟩⟩)
    | (show Post _ _ _ _ _; exact Rs.post ⟨j.l, j.p, j.c⟩ (by rw [hi.2.1]; rfl) (Imp.trans (Imp.pubS 1 rfl hi.2.1.symm) (Imp.fs (by repeat' (first | exact trivial | exact .head _ | apply List.Mem.tail | apply And.intro)))) (by have h9 := hi.1; rw [hi.2.2, show j.i = r by omega]))
    | (show RdB _ _ _; refine RdB.mk' (by repeat (first | exact .head _ | apply List.Mem.tail)) (Nx.go ?_))
    | (refine AR.i64 (by omega) ?_; conv => whnf)
    | (refine AR.u64 (by omega) ?_; conv => whnf)
    | (refine AR.u8 (by omega) ?_; conv => whnf)
    | (refine Ob.mk (by omega) ?_; conv => whnf)
    | (refine BR.mk (fun h => ?_) (fun h => ?_) <;> (first | rw [Bool.not_eq_true'] at h | rw [Bool.not_eq_false'] at h | skip) <;> (try rw [h]) <;> (first | replace h := of_decide_eq_true h | replace h := of_decide_eq_false h | replace h := eq_of_beq h | replace h := bne_iff_ne.1 h | replace h := beq_eq_false_iff_ne.1 h | replace h := bne_eq_false_iff_eq.1 h | skip) <;> conv => whnf)
  · exact ⟨Nat.zero_le _, rfl, rfl⟩
  · exact ⟨Nat.zero_le _, hi.2.1, by rw [hi.2.2]; simp⟩
  · have h9 := hi.len (show j.i < r by omega) hr (by omega); rw [hys]; simp only [List.length_singleton]; omega
  · have h9 := hi.len (show j.i < r by omega) hr (by omega); rw [hys]; simp only [List.length_singleton]; omega
  · exact hi.step (by omega) rfl hys rfl
  · show c - (k.i + 1) < c - k.i; omega
  · exact JoinO.step (by assumption) (by omega) hi (by omega)
  · show r - (j.i + 1) < r - j.i; omega

theorem c_joinL (r c m : Nat) (hr : r ≤ 4) (hc : c ≤ 32) (hm : m ≤ c) (d : Nat) (hd : m + d ≤ c) (x : Sli UInt64) (hx : x.l.length = r * c) (v : SV) (wb b1 b2 : Nat) : Ct Tryz.prog 254 [] [.raw (.pointer (some ⟨wb, 0, none⟩)), .int .i64 m, .fn 255 [] [.raw (.pointer (some ⟨b1, 0, none⟩)), .raw (.pointer (some ⟨b2, 0, none⟩))]] [blkF wb [.int .i64 r, .int .i64 c, v] 320, blkF b1 [.int .i64 r, .int .i64 c, x.sv] 28, blkF b2 [.int .i64 d] 3, x.f encU 1] (Rs (fun z : Sli UInt64 => .agg [.int .i64 r, .int .i64 m, z.sv]) (fun _ => []) (fun z => [z.f encU 1]) (fun z => z.l = joinL r m (fL c d x.l))) := by
  refine Ct.post (Ct.of Tryz.func254 rfl (n := 40) rfl rfl rfl ?_)
  conv => whnf
  repeat' first
    | (show SemO _ _ (.buildSlice _ _ #[(0, .tmp 27)]) _ _ _ _ _; refine SemO.lit ?_; (conv => whnf); show BsV _ _ _ _ _; refine BsV.s [(fL c d x.l) j.i k.i] (by repeat (first | exact .nil | refine .cons (by first | rfl | exact encB_of (by omega) | exact encU_U (by omega)) ?_)) (fun xo _ => okU xo) (fun ys hys => Nx.go ?_))
    | (show SemO _ _ (.call ⟨.builtin .append, _, _⟩) _ _ _ _ _; refine SemO.appendVec ?_; (conv => whnf); refine Ob.mk ⟨rfl, rfl, rfl, rfl, rfl⟩ ?_)
    | (show AppV _ _ _ _ _ _ _ _ _ _ _ _ _ _; refine ⟨rfl, _, .fact (by repeat (first | exact .head _ | apply List.Mem.tail)), app_le (N := 1048576) ?_ (of_decide_eq_true (by kernel_rfl)), ?_, fun bv pv cv hcv => Nx.go ?_⟩)
    | (refine Ob.mk rfl ?_; conv => whnf)
    | (refine Nx.mk ?_; conv => whnf)
    | (refine BR.yes ?_; conv => whnf)
    | (refine BR.no ?_; conv => whnf)
    | (intro bk; conv => whnf)
    | (show CallK _ _ 255 _ _ _ _; refine CallK.rf (c_lc r c d hr hc x hx b1 b2 j.i k.i (by omega) (by omega)) (by repeat' (first | exact trivial | exact .head _ | apply List.Mem.tail | apply And.intro)) (fun u hu => Nx.go ?_))
    | (show CallK _ _ 253 _ _ _ _; refine CallK.rv (c_plus u _ _ hu) (by repeat' (first | exact trivial | exact .head _ | apply List.Mem.tail | apply And.intro)) (Nx.go ?_))
    | (show SemC _ _ _ (.loop (.seq (.region 3 _ _) _)) _ _ _ _ _; refine SemC.loopN (c := (.seq (.region 3 _ _) _)) (fun j : CatJ => [(15, .int .i64 j.i), (7, .vec 1 j.p j.n j.c)]) (fun lb j => lb ++ [(j.b, .vec encU 1 50 j.p j.n j.c j.l)]) (fun j => JoinO r m (fL c d x.l) j) (fun j => r - j.i) ⟨0, 0, none, 0, 0, []⟩ ?_; (conv => whnf); refine LoopQ.mk ?_ ⟨(by repeat (first | exact trivial | refine ⟨rfl, ?_⟩ | refine ⟨congrArg (Value.int _) (by omega), ?_⟩)), (Imp.nilVec encU 1 50)⟩ (fun j hi => ?_))
    | (show Exists _; refine Exists.intro (⟨j.i + 1, k.b, k.p, k.n, k.c, k.l⟩) ⟨?_, ?_, rfl, ⟨(by repeat (first | exact trivial | refine ⟨rfl, ?_⟩ | refine ⟨congrArg (Value.int _) (by omega), ?_⟩)), Imp.to 2 rfl (by repeat' (first | exact trivial | exact .head _ | apply List.Mem.tail | apply And.intro))⟩⟩)
    | (show SemC _ _ _ (.loop (.seq (.region 6 _ _) _)) _ _ _ _ _; refine SemC.loopN (c := (.seq (.region 6 _ _) _)) (fun k : CatJ => [(19, .int .i64 k.i), (7, .vec 1 k.p k.n k.c)]) (fun lb k => lb.set 1 (k.b, .vec encU 1 50 k.p k.n k.c k.l)) (fun k => JoinN j.i m (fL c d x.l) k) (fun k => m - k.i) ⟨0, j.b, j.p, j.n, j.c, j.l⟩ ?_; (conv => whnf); refine LoopQ.mk ?_ ⟨(by repeat (first | exact trivial | refine ⟨rfl, ?_⟩ | refine ⟨congrArg (Value.int _) (by omega), ?_⟩)), (Imp.eq rfl)⟩ (fun k hi => ?_))
    | (show Exists _; refine Exists.intro (⟨k.i + 1, bv, pv, k.n + ys.l.length, cv, k.l ++ ys.l⟩) ⟨?_, ?_, rfl, ⟨(by repeat (first | exact trivial | refine ⟨rfl, ?_⟩ | refine ⟨congrArg (Value.int _) (by omega), ?_⟩)), Imp.to 2 rfl (by repeat' (first | exact trivial | exact .head _ | apply List.Mem.tail | apply And.intro))⟩⟩)
    | (show Post _ _ _ _ _; exact Rs.post ⟨j.l, j.p, j.c⟩ (by rw [hi.2.1]; rfl) (Imp.trans (Imp.pubS 1 rfl hi.2.1.symm) (Imp.fs (by repeat' (first | exact trivial | exact .head _ | apply List.Mem.tail | apply And.intro)))) (by have h9 := hi.1; rw [hi.2.2, show j.i = r by omega]))
    | (show RdB _ _ _; refine RdB.mk' (by repeat (first | exact .head _ | apply List.Mem.tail)) (Nx.go ?_))
    | (refine AR.i64 (by omega) ?_; conv => whnf)
    | (refine AR.u64 (by omega) ?_; conv => whnf)
    | (refine AR.u8 (by omega) ?_; conv => whnf)
    | (refine Ob.mk (by omega) ?_; conv => whnf)
    | (refine BR.mk (fun h => ?_) (fun h => ?_) <;> (first | rw [Bool.not_eq_true'] at h | rw [Bool.not_eq_false'] at h | skip) <;> (try rw [h]) <;> (first | replace h := of_decide_eq_true h | replace h := of_decide_eq_false h | replace h := eq_of_beq h | replace h := bne_iff_ne.1 h | replace h := beq_eq_false_iff_ne.1 h | replace h := bne_eq_false_iff_eq.1 h | skip) <;> conv => whnf)
  · exact ⟨Nat.zero_le _, rfl, rfl⟩
  · exact ⟨Nat.zero_le _, hi.2.1, by rw [hi.2.2]; simp⟩
  · have h9 := hi.len (show j.i < r by omega) hr (by omega); rw [hys]; simp only [List.length_singleton]; omega
  · have h9 := hi.len (show j.i < r by omega) hr (by omega); rw [hys]; simp only [List.length_singleton]; omega
  · exact hi.step (by omega) rfl hys rfl
  · show m - (k.i + 1) < m - k.i; omega
  · exact JoinO.step (by assumption) (by omega) hi (by omega)
  · show r - (j.i + 1) < r - j.i; omega

theorem c_cMerge (r c : Nat) (x z : Sli UInt64) (h : cmsRight r c x.l = true) (h2 : cmsRight r c z.l = true) : Ct Tryz.prog 250 [] [.agg [.int .i64 r, .int .i64 c, x.sv], .agg [.int .i64 r, .int .i64 c, z.sv]] [x.f encU 1, z.f encU 1] (Rs (fun z : Sli UInt64 => .tup [.agg [.int .i64 r, .int .i64 c, z.sv], .int .i64 0]) (fun _ => []) (fun z => [z.f encU 1]) (fun u => u.l = mergeC x.l z.l)) := by
  obtain ⟨hr9, hc9, hl9, hl8⟩ := cmsR h
  obtain ⟨_, _, hm9, _⟩ := cmsR h2
  refine Ct.post (Ct.of Tryz.func250 rfl (n := 43) rfl rfl rfl ?_)
  conv => whnf
  repeat' first
    | (show BR (decide ((r : Int) ≠ (r : Int))) _ _; refine BR.noK (decide_eq_false (by simp)) ?_; conv => whnf)
    | (show BR (decide ((c : Int) ≠ (c : Int))) _ _; refine BR.noK (decide_eq_false (by simp)) ?_; conv => whnf)
    | (refine Ob.mk rfl ?_; conv => whnf)
    | (refine Nx.mk ?_; conv => whnf)
    | (refine BR.yes ?_; conv => whnf)
    | (refine BR.no ?_; conv => whnf)
    | (intro bk; conv => whnf)
    | (show CallK _ _ 251 _ _ _ _; refine CallK.rs (c_cstart 3 r c x h) (by repeat' (first | exact trivial | exact .head _ | apply List.Mem.tail | apply And.intro)) (fun y hy => ⟨rfl, Nx.go ?_⟩))
    | (show CallK _ _ 109 _ _ _ _; refine CallK.rv (c_crT r c z h2) (by repeat' (first | exact trivial | exact .head _ | apply List.Mem.tail | apply And.intro)) (Nx.go ?_))
    | (show CallK _ _ _ _ _ _ _; refine CallK.rfP (Imp.trans (Imp.pubCells 0 rfl) (Imp.pubCells 1 rfl)) (c_joinM r c (by omega) (by omega) x z hl9 hm9 (.vec 4 y.p x.l.length y.c) y.wb _ _) rfl (by repeat' (first | exact trivial | exact .head _ | apply List.Mem.tail | apply And.intro)) (fun u hu => Nx.go ?_))
    | (show Post _ _ _ _ _; exact Rs.post u rfl (Imp.fs (by repeat' (first | exact trivial | exact .head _ | apply List.Mem.tail | apply And.intro))) (by rw [hu, join_merge hl9 hm9]))
    | (show RdB _ _ _; refine RdB.mk' (by repeat (first | exact .head _ | apply List.Mem.tail)) (Nx.go ?_))
    | (refine AR.i64 (by omega) ?_; conv => whnf)
    | (refine AR.u64 (by omega) ?_; conv => whnf)
    | (refine AR.u8 (by omega) ?_; conv => whnf)
    | (refine Ob.mk (by omega) ?_; conv => whnf)
    | (refine BR.mk (fun h => ?_) (fun h => ?_) <;> (first | rw [Bool.not_eq_true'] at h | rw [Bool.not_eq_false'] at h | skip) <;> (try rw [h]) <;> (first | replace h := of_decide_eq_true h | replace h := of_decide_eq_false h | replace h := eq_of_beq h | replace h := bne_iff_ne.1 h | replace h := beq_eq_false_iff_ne.1 h | replace h := bne_eq_false_iff_eq.1 h | skip) <;> conv => whnf)
  all_goals exact absurd rfl h

theorem c_cLower (r c : Nat) (x : Sli UInt64) (h : cmsRight r c x.l = true) (h4 : c ≠ 4) : Ct Tryz.prog 249 [] [.agg [.int .i64 r, .int .i64 c, x.sv]] [x.f encU 1] (Rs (fun z : Sli UInt64 => .tup [.agg [.int .i64 r, .int .i64 (c / 2 : Nat), z.sv], .int .i64 0]) (fun _ => []) (fun z => [z.f encU 1]) (fun u => u.l = lowC r c x.l)) := by
  obtain ⟨hr9, hc9, hl9, hl8⟩ := cmsR h
  refine Ct.post (Ct.of Tryz.func249 rfl (n := 30) rfl rfl rfl ?_)
  conv => whnf
  repeat' first
    | (rw [quo2]; refine AR.i64 (by omega) ?_; conv => whnf)
    | (show BR (decide ((c : Int) = 4)) _ _; refine BR.noK (decide_eq_false (by omega)) ?_; conv => whnf)
    | (refine Ob.mk rfl ?_; conv => whnf)
    | (refine Nx.mk ?_; conv => whnf)
    | (refine BR.yes ?_; conv => whnf)
    | (refine BR.no ?_; conv => whnf)
    | (intro bk; conv => whnf)
    | (show CallK _ _ 251 _ _ _ _; refine CallK.rs (c_cstart 2 r c x h) (by repeat' (first | exact trivial | exact .head _ | apply List.Mem.tail | apply And.intro)) (fun y hy => ⟨rfl, Nx.go ?_⟩))
    | (show CallK _ _ _ _ _ _ _; refine CallK.rfP (Imp.trans (Imp.pubCells 0 rfl) (Imp.pubCells 4 rfl)) (c_joinL r c (c / 2) (by omega) (by omega) (by omega) (c / 2) (by omega) x hl9 (.vec 3 y.p x.l.length y.c) y.wb _ _) rfl (by repeat' (first | exact trivial | exact .head _ | apply List.Mem.tail | apply And.intro)) (fun u hu => Nx.go ?_))
    | (show Post _ _ _ _ _; exact Rs.post u rfl (Imp.fs (by repeat' (first | exact trivial | exact .head _ | apply List.Mem.tail | apply And.intro))) hu)
    | (show RdB _ _ _; refine RdB.mk' (by repeat (first | exact .head _ | apply List.Mem.tail)) (Nx.go ?_))
    | (refine AR.i64 (by omega) ?_; conv => whnf)
    | (refine AR.u64 (by omega) ?_; conv => whnf)
    | (refine AR.u8 (by omega) ?_; conv => whnf)
    | (refine Ob.mk (by omega) ?_; conv => whnf)
    | (refine BR.mk (fun h => ?_) (fun h => ?_) <;> (first | rw [Bool.not_eq_true'] at h | rw [Bool.not_eq_false'] at h | skip) <;> (try rw [h]) <;> (first | replace h := of_decide_eq_true h | replace h := of_decide_eq_false h | replace h := eq_of_beq h | replace h := bne_iff_ne.1 h | replace h := beq_eq_false_iff_ne.1 h | replace h := bne_eq_false_iff_eq.1 h | skip) <;> conv => whnf)

def minC (r c : Nat) (u : UInt64) (l : List UInt64) : Nat := (List.range r).foldl (fun m i => min m (l.getD (i * c + colC c i u) 0).toNat) 18446744073709551615
theorem minC_step {k c : Nat} {u : UInt64} {l : List UInt64} {x : UInt64} (h : l[k * c + colC c k u]? = some x) : minC (k + 1) c u l = min (minC k c u l) x.toNat := by
  unfold minC
  rw [List.range_succ, List.foldl_append]
  simp only [List.foldl_cons, List.foldl_nil]
  rw [getD_at h]

theorem c_cCount (r c : Nat) (s0 : Sli UInt64) (h : cmsRight r c s0.l = true) (u : UInt64) : Ct Tryz.prog 248 [] [.agg [.int .i64 r, .int .i64 c, s0.sv], .int .u64 u.toNat] [s0.f encU 1] (Rv (.int .u64 (minC r c u s0.l))) := by
  obtain ⟨hr9, hc9, hl9, hl8⟩ := cmsR h
  refine Ct.of Tryz.func248 rfl (n := 31) rfl rfl rfl ?_
  conv => whnf
  repeat' first
    | (refine Ob.mk ⟨rfl, rfl, rfl, rfl, by have h9 := (cell_in (h := u) hl9 hc9 hnr); omega⟩ ?_; conv => whnf)
    | (refine Ob.mk ⟨rfl, rfl, by have h9 := (cell_in (h := u) hl9 hc9 hnr); omega⟩ ?_; conv => whnf)
    | (intro x8 hx8; have hft := minC_step hx8; conv => whnf)
    | (refine Ob.mk rfl ?_; conv => whnf)
    | (refine Nx.mk ?_; conv => whnf)
    | (refine BR.yes ?_; conv => whnf)
    | (refine BR.no ?_; conv => whnf)
    | (intro bk; conv => whnf)
    | (show CallK _ _ 251 _ _ _ _; refine CallK.rs (c_cstart 1 r c s0 h) (by repeat' (first | exact trivial | exact .head _ | apply List.Mem.tail | apply And.intro)) (fun y hy => ⟨rfl, Nx.go ?_⟩))
    | (show CallK _ _ 252 _ _ _ _; refine CallK.rf (c_places y.wb u) (by repeat' (first | exact trivial | exact .head _ | apply List.Mem.tail | apply And.intro)) (fun q hq => Nx.go ?_))
    | (show SemC _ _ _ (.rangeFunc _ _ (.region 6 _ _) _) _ _ _ _ _; refine SemC.rangeC (σ := Int) (fun lb m => setCells lb 4 [.int .u64 m]) (fun k m => m = (minC k c u s0.l : Nat)) (fun c x => False) (placesX r c u) 5 (i_places r c (by omega) hc9 u (.vec 2 y.p s0.l.length y.c) y.wb q.1 q.2) (18446744073709551615) ?_ (fun _ => rfl) (fun D r => Imp.to 7 rfl (by repeat' (first | exact trivial | exact .head _ | apply List.Mem.tail | apply And.intro))) (by repeat' (first | exact trivial | exact .head _ | apply List.Mem.tail | apply And.intro)) rfl (fun D rc nr x a hx ha => ?_) (fun D x o hx => ?_) (fun D c x o hx => ?_))
    | (refine Nx1.mk ?_; obtain ⟨hnr, rfl⟩ := placesX_inv ha; (conv => whnf))
    | (refine Nx2.mk ?_; exact hx.elim)
    | (show EndS _ _ _ _ _ _ _; refine EndS.mark 5 rfl rfl (fun o => Nx.go ?_))
    | (refine Ob.mk ⟨rfl, rfl⟩ ?_; conv => whnf)
    | (show Exists _; refine Exists.intro (min x x8.toNat) ⟨?_, Imp.to 7 rfl (by repeat' (first | exact trivial | exact .head _ | apply List.Mem.tail | apply And.intro))⟩)
    | (refine SemC.draw 7 [] [.t 0, .t 1, .t 2, .t 3, .t 4, .t 5, .t 6, .t 7, .t 8, .t 9, .l 10] (by kernel_rfl) (by kernel_rfl) ?_; conv => whnf)
    | (refine Idx.nat ?_; conv => whnf)
    | (refine Idx.is _ rfl ?_; conv => whnf)
    | (show HasP _ _ _ _ _ _; refine HasP.mk' (by repeat (first | exact .head _ | apply List.Mem.tail)) (Nx.go ?_))
    | (show RdE _ _ _ _ _ _ _; refine RdE.s (by repeat (first | exact .head _ | apply List.Mem.tail)) (by omega) (fun xe hxe => Nx.go ?_))
    | (show RdB _ _ _; refine RdB.mk' (by repeat (first | exact .head _ | apply List.Mem.tail)) (Nx.go ?_))
    | (refine AR.i64 (by omega) ?_; conv => whnf)
    | (refine AR.u64 (by omega) ?_; conv => whnf)
    | (refine AR.u8 (by omega) ?_; conv => whnf)
    | (refine Ob.mk (by omega) ?_; conv => whnf)
    | (refine BR.mk (fun h => ?_) (fun h => ?_) <;> (first | rw [Bool.not_eq_true'] at h | rw [Bool.not_eq_false'] at h | skip) <;> (try rw [h]) <;> (first | replace h := of_decide_eq_true h | replace h := of_decide_eq_false h | replace h := eq_of_beq h | replace h := bne_iff_ne.1 h | replace h := beq_eq_false_iff_ne.1 h | replace h := bne_eq_false_iff_eq.1 h | skip) <;> conv => whnf)
  · rfl
  · show min x (x8.toNat : Int) = (minC (nr + 1) c u s0.l : Nat)
    rw [hft, show x = (minC nr c u s0.l : Nat) from hx]; omega
  · rw [placesX_len] at hx
    rw [hx]; rfl
end Go.Proofs.YtikjigkkhdkibaaGreatDoor

/- ladder: M17 -/
namespace Go.Proofs.YtikjigkkhdkibaaGreatDoor
open Go.Proofs.YtikjigkkhdkibaaGreatDoor.W
set_option maxRecDepth 100000
set_option linter.unusedVariables false
theorem c_gtold  : Ct Tryz.prog 270 [] [.iface 333 (.agg [])] [] (Rv (.int .i64 90)) := by
  refine Ct.of Tryz.func270 rfl (n := 11) rfl rfl rfl ?_
  conv => whnf
  repeat' first
    | (refine Ob.mk rfl ?_; conv => whnf)
    | (refine Nx.mk ?_; conv => whnf)
    | (refine BR.yes ?_; conv => whnf)
    | (refine BR.no ?_; conv => whnf)
    | (intro bk; conv => whnf)
    | (refine Ob.mk (by omega) ?_; conv => whnf)
    | (refine BR.mk (fun h => ?_) (fun h => ?_) <;> (first | rw [Bool.not_eq_true'] at h | rw [Bool.not_eq_false'] at h | skip) <;> (try rw [h]) <;> (first | replace h := of_decide_eq_true h | replace h := of_decide_eq_false h | replace h := eq_of_beq h | replace h := bne_iff_ne.1 h | replace h := beq_eq_false_iff_ne.1 h | replace h := bne_eq_false_iff_eq.1 h | skip) <;> conv => whnf)
  all_goals rfl

def outG (a b : UInt64) (i : Nat) : Nat := if i = 0 then 0 else if i = 1 then a.toNat else capN (a.toNat + b.toNat)
theorem outG_le (a b : UInt64) (i : Nat) : outG a b i ≤ 18446744073709551615 := by
  have := a.toNat_lt
  unfold outG capN
  split
  · omega
  · split <;> omega
theorem outG_step {l : List UInt64} {a b : UInt64} {i : Nat} {x : UInt64} (hl : l = [a, b]) (h : l[i]? = some x) : outG a b i + min x.toNat (18446744073709551615 - outG a b i) = outG a b (i + 1) ∧ i < 2 := by
  have ha := a.toNat_lt
  have hb := b.toNat_lt
  subst hl
  match i with
  | 0 =>
    cases h
    show 0 + min a.toNat (18446744073709551615 - 0) = a.toNat ∧ 0 < 2
    omega
  | 1 =>
    cases h
    show a.toNat + min b.toNat (18446744073709551615 - a.toNat) = min (a.toNat + b.toNat) 18446744073709551615 ∧ 1 < 2
    omega
  | i + 2 => simp at h

theorem c_gplus (x : Sli UInt64) (a b : UInt64) (hx : x.l = [a, b]) : Ct Tryz.prog 274 [] [x.sv] [x.f encU 1] (Rv (.int .u64 (satP a b).toNat)) := by
  have hl : x.l.length = 2 := by rw [hx]; rfl
  refine Ct.of Tryz.func274 rfl (n := 20) rfl rfl rfl ?_
  conv => whnf
  repeat' first
    | (have h7 := outG_le a b i; show AR .u64 (18446744073709551615 - _) _; refine AR.u64 (by omega) ?_; conv => whnf)
    | (have h8 := outG_step hx hxe; have h7 := outG_le a b (i + 1); show AR .u64 (_ + _) _; refine AR.u64 (by omega) ?_; conv => whnf)
    | (have h8 := outG_step hx hxe; show Exists _; refine Exists.intro (i + 1) ⟨?_, ?_, rfl, ⟨(by repeat (first | exact trivial | refine ⟨rfl, ?_⟩ | refine ⟨congrArg (Value.int _) (by omega), ?_⟩)), Imp.refl⟩⟩)
    | (refine Ob.mk rfl ?_; conv => whnf)
    | (refine Nx.mk ?_; conv => whnf)
    | (refine BR.yes ?_; conv => whnf)
    | (refine BR.no ?_; conv => whnf)
    | (show SemC _ _ _ (.loop (.seq (.region 3 _ _) _)) _ _ _ _ _; refine SemC.loopC (c := (.seq (.region 3 _ _) _)) (fun i : Nat => [(8, .int .i64 i), (3, .int .u64 (outG a b i))]) (fun i => i ≤ 2) (fun i => 2 - i) 0 ?_; (conv => whnf); refine LoopQ.mk ?_ ⟨(by repeat (first | exact trivial | refine ⟨rfl, ?_⟩ | refine ⟨congrArg (Value.int _) (by omega), ?_⟩)), Imp.refl⟩ (fun i hi => ?_))
    | (refine Idx.nat ?_; conv => whnf)
    | (refine Idx.is _ rfl ?_; conv => whnf)
    | (show HasP _ _ _ _ _ _; refine HasP.mk' (by repeat (first | exact .head _ | apply List.Mem.tail)) (Nx.go ?_))
    | (show RdE _ _ _ _ _ _ _; refine RdE.s (by repeat (first | exact .head _ | apply List.Mem.tail)) (by omega) (fun xe hxe => Nx.go ?_))
    | (show RdB _ _ _; refine RdB.mk' (by repeat (first | exact .head _ | apply List.Mem.tail)) (Nx.go ?_))
    | (refine AR.i64 (by omega) ?_; conv => whnf)
    | (refine AR.u64 (by omega) ?_; conv => whnf)
    | (refine AR.u8 (by omega) ?_; conv => whnf)
    | (refine Ob.mk (by omega) ?_; conv => whnf)
    | (refine BR.mk (fun h => ?_) (fun h => ?_) <;> (first | rw [Bool.not_eq_true'] at h | rw [Bool.not_eq_false'] at h | skip) <;> (try rw [h]) <;> (first | replace h := of_decide_eq_true h | replace h := of_decide_eq_false h | replace h := eq_of_beq h | replace h := bne_iff_ne.1 h | replace h := beq_eq_false_iff_ne.1 h | replace h := bne_eq_false_iff_eq.1 h | skip) <;> conv => whnf)
  · omega
  · omega
  · omega
  · obtain rfl : i = 2 := by omega
    simp only [resS]; rw [satP_nat]; rfl

theorem c_keys (b : Nat) : Ct Tryz.prog 276 [] [.raw (.map (some b))] [] (Rs (fun bx : Nat => .fn 280 [] [.raw (.pointer (some ⟨bx, 0, none⟩))]) (fun _ => []) (fun bx => [blkF bx [.raw (.map (some b))] 335]) (fun _ => True)) := by
  refine Ct.post (Ct.of Tryz.func276 rfl (n := 4) rfl rfl rfl ?_)
  conv => whnf
  repeat' first
    | (refine Ob.mk rfl ?_; conv => whnf)
    | (refine Nx.mk ?_; conv => whnf)
    | (intro bk; conv => whnf)
    | (show Post _ _ _ _ _; refine Rs.post _ rfl (Imp.trans (Imp.pubCells 0 rfl) (Imp.fs (by repeat' (first | exact trivial | exact .head _ | apply List.Mem.tail | apply And.intro)))) trivial)
    | (refine Ob.mk (by omega) ?_; conv => whnf)

def encI (n : Int) : List SV := [.int .i64 n]
theorem okI (n : Int) : okE encI 1 n := ⟨rfl, rfl⟩
theorem flat_encI (l : List Int) : flat encI l = l.map encZ := by
  induction l with
  | nil => rfl
  | cons a l ih => simpa [flat, encI, dens, SV.den] using ih
theorem c_srt (b bx : Nat) (M : MapU) (l : List Bin) (hM : MapOf M l) (hl : ∀ x ∈ l, 0 ≤ x.at_ ∧ x.at_ < 10000) : Ct Tryz.prog 275 [(b, .map (Value.int .i64) (encM M))] [.fn 280 [] [.raw (.pointer (some ⟨bx, 0, none⟩))]] [blkF bx [.raw (.map (some b))] 335]
    (Rs (fun y : Sli Int => y.sv) (fun _ => [(b, .map (Value.int .i64) (encM M))]) (fun y => [y.f encI 1]) (fun y => y.l = l.map (·.at_))) := by
  refine ⟨fun M0 A w hr => ?_⟩
  obtain ⟨D0, ho, hp, hs⟩ := hr.ownsM (H := Unit) (i := 0) rfl hM (K := 3) rfl hl
  have hb := hr.hold _ (List.Mem.head _)
  have h := sh_keysSorted b bx 10000 D0 _ w (lt_of_some hb.2) (by rw [cell_of hb.2]; rfl) ho (by have e9 : maxLen = 9223372036854775807 := rfl; omega) (by omega)
  refine Calls.mono h fun e w' ⟨v, ss, he, h1, h2, h3, h4⟩ => ?_
  have hk : Kept No w w' := ⟨h4.os, h4.tape, h4.output, h4.size, fun k hk _ => h4.block k hk⟩
  have hss : ss.mergeSort (fun x y => decide (x ≤ y)) = l.map (·.at_) := by
    rw [← hM.keysM_eq]
    exact mergeSort_of_perm_i (h1.trans hp)
  rw [hss] at h2
  have hr2 := hr.call hk
  have hlen : ss.length = (l.map (·.at_)).length := by rw [← hss, List.length_mergeSort]
  obtain ⟨p, c, hv, hsl⟩ : ∃ (p : Option Addr) (c : Nat), v = .slice p (l.map (·.at_)).length c ∧ Sl ((amb0 M0 w A).In (sem [(b, .map (Value.int .i64) (encM M))])) w' 1 p (l.map (·.at_)).length c (flat encI (l.map (·.at_))) := by
    rw [flat_encI]
    rw [hlen] at h2
    obtain ⟨g0, ⟨rfl, g1⟩ | ⟨g, cap, cur, rfl, g1, g2, g3, g4, g5, g6⟩⟩ := h2
    · refine ⟨none, 0, by rw [g1], ?_⟩
      have : l.map (·.at_) = [] := List.length_eq_zero_iff.1 g1
      rw [this]
      exact Sl.nil _ _ _
    · refine ⟨some ⟨g, 0, none⟩, cap, rfl, g0, g3, g4, (fun h => by cases h), .inr ⟨g, 0, cur, _, _, rfl, ⟨?_, id, .inr (.inr g1)⟩, g2, ?_, ?_⟩⟩
      · intro i q hq hrq e
        have := hr.st.lt hq hrq
        omega
      · rw [g5]; omega
      · rw [List.drop_zero]; exact g6
  generalize hy : (⟨l.map (·.at_), p, c⟩ : Sli Int) = y
  have hv2 : v = y.sv.den := by rw [← hy]; exact hv
  have hyl : y.l = l.map (·.at_) := by rw [← hy]
  have hsl2 : (y.f encI 1).F ((amb0 M0 w A).In (sem [(b, .map (Value.int .i64) (encM M))])) w' := by rw [← hy]; exact ⟨fun x _ => okI x, rfl, hsl⟩
  refine ⟨_, he, hk.weaken fun _ _ h => h.elim, y.sv, [(b, .map (Value.int .i64) (encM M))], [y.f encI 1], hv2, ⟨y, rfl, rfl, rfl, hyl⟩, ?_⟩
  exact ⟨hr2.st, Hold.cons hsl2 Hold.nil, hr2.mu, hr2.muM, hr2.amb⟩
end Go.Proofs.YtikjigkkhdkibaaGreatDoor
