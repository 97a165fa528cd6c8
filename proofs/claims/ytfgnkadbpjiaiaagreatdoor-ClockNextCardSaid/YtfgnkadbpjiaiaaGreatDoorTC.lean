/- YtfgnkadbpjiaiaaGreatDoorTC: a part of the proofs of given statements of this seat; no condition beyond them. -/
import Derived.Test.YtfgnkadbpjiaiaaGreatDoorTB
import Derived.Test.YtfgnkadbpjiaiaaGreatDoorWB
import Derived.Test.YtfgnkadbpjiaiaaGreatDoorTie
import Derived.LaidLaws
import Derived.LaidHandle
import Derived.Stop.Joined
set_option linter.unusedVariables false
/- clock: K9 -/
namespace Go.Proofs.YtfgnkadbpjiaiaaGreatDoor
open Go.Proofs.YtfgnkadbpjiaiaaGreatDoor.W
set_option maxRecDepth 100000
set_option linter.unusedVariables false
def sinceI (t s : UInt64) : Int := if (s.toNat : Int) ≥ t.toNat then 0 else t.toNat - s.toNat
/-- is it stale? -/
def staleS (now life : UInt64) (s : Ser) : Bool := decide (s.seen.toNat < now.toNat) && decide ((life.toNat : Int) < now.toNat - s.seen.toNat)

theorem c_since (t s : UInt64) : Ct Tryz.prog 31 [] [.int .u64 t.toNat, .int .u64 s.toNat] [] (Rv (.tup [.int .u64 (sinceI t s), .bool (decide (s.toNat < t.toNat))])) := by
  have h1 := t.toNat_lt
  have h2 := s.toNat_lt
  refine Ct.of Tryz.func31 rfl (n := 12) rfl rfl rfl ?_
  conv => whnf
  repeat' first
    | (refine Ob.mk rfl ?_; conv => whnf)
    | (refine Nx.mk ?_; conv => whnf)
    | (refine BR.yes ?_; conv => whnf)
    | (refine BR.no ?_; conv => whnf)
    | (refine AR.i64 (by omega) ?_; conv => whnf)
    | (refine AR.u64 (by omega) ?_; conv => whnf)
    | (refine AR.u8 (by omega) ?_; conv => whnf)
    | (refine Ob.mk (by omega) ?_; conv => whnf)
    | (refine BR.mk (fun h => ?_) (fun h => ?_) <;> (first | rw [Bool.not_eq_true'] at h | rw [Bool.not_eq_false'] at h | skip) <;> (try rw [h]) <;> (first | replace h := of_decide_eq_true h | replace h := of_decide_eq_false h | replace h := eq_of_beq h | replace h := bne_iff_ne.1 h | replace h := beq_eq_false_iff_ne.1 h | replace h := bne_eq_false_iff_eq.1 h | skip) <;> conv => whnf)
  · rw [sinceI, if_pos (by omega), decide_eq_false (by omega)]; rfl
  · rw [sinceI, if_neg (by omega), decide_eq_true (by omega)]; rfl

theorem c_stale (now life : UInt64) (x : SerV) : Ct Tryz.prog 30 [] [.agg [.int .u64 now.toNat, .int .u64 life.toNat], .agg (encSer x)] [] (Rv (.bool (staleS now life x.ser))) := by
  refine Ct.of Tryz.func30 rfl (n := 22) rfl rfl rfl ?_
  conv => whnf
  repeat' first
    | (refine Ob.mk rfl ?_; conv => whnf)
    | (refine Nx.mk ?_; conv => whnf)
    | (refine BR.yes ?_; conv => whnf)
    | (refine BR.no ?_; conv => whnf)
    | (intro bk; conv => whnf)
    | (show CallK _ _ 31 _ _ _ _; refine CallK.rv (c_since now x.seen) (by repeat' (first | exact trivial | exact .head _ | apply List.Mem.tail | apply And.intro)) (Nx.go ?_))
    | (show RdB _ _ _; refine RdB.mk' (by repeat (first | exact .head _ | apply List.Mem.tail)) (Nx.go ?_))
    | (refine AR.i64 (by omega) ?_; conv => whnf)
    | (refine AR.u64 (by omega) ?_; conv => whnf)
    | (refine AR.u8 (by omega) ?_; conv => whnf)
    | (refine Ob.mk (by omega) ?_; conv => whnf)
    | (refine BR.mk (fun h => ?_) (fun h => ?_) <;> (first | rw [Bool.not_eq_true'] at h | rw [Bool.not_eq_false'] at h | skip) <;> (try rw [h]) <;> (first | replace h := of_decide_eq_true h | replace h := of_decide_eq_false h | replace h := eq_of_beq h | replace h := bne_iff_ne.1 h | replace h := beq_eq_false_iff_ne.1 h | replace h := bne_eq_false_iff_eq.1 h | skip) <;> conv => whnf)
  · rw [staleS, decide_eq_true (show x.ser.seen.toNat < now.toNat from h), Bool.true_and]; simp only [resS]; congr 1; exact decide_eq_decide.2 (by rw [sinceI, if_neg (by omega)]; exact Iff.rfl)
  · rw [staleS, decide_eq_false (show ¬ x.ser.seen.toNat < now.toNat from h), Bool.false_and]; rfl

theorem c_Stale (now life : UInt64) (x : SerV) : Ct Tryz.prog 14 [] [.agg (encSer x), .int .u64 now.toNat, .int .u64 life.toNat] [] (Rv (.bool (staleS now life x.ser))) := by
  refine Ct.of Tryz.func14 rfl (n := 12) rfl rfl rfl ?_
  conv => whnf
  repeat' first
    | (refine Ob.mk rfl ?_; conv => whnf)
    | (refine Nx.mk ?_; conv => whnf)
    | (intro bk; conv => whnf)
    | (show CallK _ _ 30 _ _ _ _; refine CallK.rv (c_stale now life x) (by repeat' (first | exact trivial | exact .head _ | apply List.Mem.tail | apply And.intro)) (Nx.go ?_))
    | (show RdB _ _ _; refine RdB.mk' (by repeat (first | exact .head _ | apply List.Mem.tail)) (Nx.go ?_))
    | (refine Ob.mk (by omega) ?_; conv => whnf)
  rfl

abbrev wrongC (n : Int) : SV := .iface 71 (.agg [.int .i64 n])

theorem c_ctold (n : Int) : Ct Tryz.prog 27 [] [wrongC n] [] (Rv (.int .i64 n)) := by
  refine Ct.of Tryz.func27 rfl (n := 13) rfl rfl rfl ?_
  conv => whnf
  repeat' first
    | (refine Ob.mk rfl ?_; conv => whnf)
    | (refine Nx.mk ?_; conv => whnf)
    | (refine BR.yes ?_; conv => whnf)
    | (refine BR.no ?_; conv => whnf)
    | (intro bk; conv => whnf)
    | (show RdB _ _ _; refine RdB.mk' (by repeat (first | exact .head _ | apply List.Mem.tail)) (Nx.go ?_))
    | (refine Ob.mk (by omega) ?_; conv => whnf)
    | (refine BR.mk (fun h => ?_) (fun h => ?_) <;> (first | rw [Bool.not_eq_true'] at h | rw [Bool.not_eq_false'] at h | skip) <;> (try rw [h]) <;> (first | replace h := of_decide_eq_true h | replace h := of_decide_eq_false h | replace h := eq_of_beq h | replace h := bne_iff_ne.1 h | replace h := beq_eq_false_iff_ne.1 h | replace h := bne_eq_false_iff_eq.1 h | skip) <;> conv => whnf)
  rfl

theorem c_advT (now next : UInt64) (h : now.toNat ≤ next.toNat) : Ct Tryz.prog 17 [] [.int .u64 now.toNat, .int .u64 next.toNat] [] (Rv (.tup [.int .u64 next.toNat, .int .i64 0])) := by
  refine Ct.of Tryz.func17 rfl (n := 19) rfl rfl rfl ?_
  conv => whnf
  repeat' first
    | (show BR (decide (next.toNat < now.toNat)) _ _; refine BR.noK (decide_eq_false (by omega)) ?_; conv => whnf)
    | (refine Ob.mk rfl ?_; conv => whnf)
    | (refine Nx.mk ?_; conv => whnf)
    | (refine BR.yes ?_; conv => whnf)
    | (refine BR.no ?_; conv => whnf)
    | (show CallK _ _ 31 _ _ _ _; refine CallK.rv (c_since now next) (by repeat' (first | exact trivial | exact .head _ | apply List.Mem.tail | apply And.intro)) (Nx.go ?_))
    | (refine Ob.mk (by omega) ?_; conv => whnf)
    | (refine BR.mk (fun h => ?_) (fun h => ?_) <;> (first | rw [Bool.not_eq_true'] at h | rw [Bool.not_eq_false'] at h | skip) <;> (try rw [h]) <;> (first | replace h := of_decide_eq_true h | replace h := of_decide_eq_false h | replace h := eq_of_beq h | replace h := bne_iff_ne.1 h | replace h := beq_eq_false_iff_ne.1 h | replace h := bne_eq_false_iff_eq.1 h | skip) <;> conv => whnf)
  rfl

theorem c_advF (now next : UInt64) (h : ¬ now.toNat ≤ next.toNat) : Ct Tryz.prog 17 [] [.int .u64 now.toNat, .int .u64 next.toNat] [] (Rv (.tup [.int .u64 0, .int .i64 140])) := by
  refine Ct.of Tryz.func17 rfl (n := 19) rfl rfl rfl ?_
  conv => whnf
  repeat' first
    | (show BR (decide (next.toNat < now.toNat)) _ _; refine BR.yesK (decide_eq_true (by omega)) ?_; conv => whnf)
    | (refine Ob.mk rfl ?_; conv => whnf)
    | (refine Nx.mk ?_; conv => whnf)
    | (refine BR.yes ?_; conv => whnf)
    | (refine BR.no ?_; conv => whnf)
    | (show CallK _ _ 31 _ _ _ _; refine CallK.rv (c_since now next) (by repeat' (first | exact trivial | exact .head _ | apply List.Mem.tail | apply And.intro)) (Nx.go ?_))
    | (show CallK _ _ 27 _ _ _ _; refine CallK.rv (c_ctold _) (by repeat' (first | exact trivial | exact .head _ | apply List.Mem.tail | apply And.intro)) (Nx.go ?_))
    | (refine Ob.mk (by omega) ?_; conv => whnf)
    | (refine BR.mk (fun h => ?_) (fun h => ?_) <;> (first | rw [Bool.not_eq_true'] at h | rw [Bool.not_eq_false'] at h | skip) <;> (try rw [h]) <;> (first | replace h := of_decide_eq_true h | replace h := of_decide_eq_false h | replace h := eq_of_beq h | replace h := bne_iff_ne.1 h | replace h := beq_eq_false_iff_ne.1 h | replace h := bne_eq_false_iff_eq.1 h | skip) <;> conv => whnf)
  rfl

theorem c_tabRX (z : Sli SerV) (hs : smallT (Tab z)) {r : Bool} (h : tabR (Tab z) = r) : Ct Tryz.prog 15 [] [z.sv] [z.f encSer 12, allF z.l] (Rv (.bool r)) := h ▸ c_tabR z hs

theorem c_cchkT (z : Sli SerV) (hs : smallT (Tab z)) (ht : tabR (Tab z) = true) : Ct Tryz.prog 26 [] [z.sv] [z.f encSer 12, allF z.l] (Rv (.int .i64 0)) := by
  refine Ct.of Tryz.func26 rfl (n := 6) rfl rfl rfl ?_
  conv => whnf
  repeat' first
    | (refine Ob.mk rfl ?_; conv => whnf)
    | (refine Nx.mk ?_; conv => whnf)
    | (refine BR.yes ?_; conv => whnf)
    | (refine BR.no ?_; conv => whnf)
    | (show CallK _ _ 15 _ _ _ _; refine CallK.rv (c_tabRX z hs ht) (by repeat' (first | exact trivial | exact .head _ | apply List.Mem.tail | apply And.intro)) (Nx.go ?_))
    | (refine AR.i64 (by omega) ?_; conv => whnf)
    | (refine AR.u64 (by omega) ?_; conv => whnf)
    | (refine AR.u8 (by omega) ?_; conv => whnf)
    | (refine Ob.mk (by omega) ?_; conv => whnf)
    | (refine BR.mk (fun h => ?_) (fun h => ?_) <;> (first | rw [Bool.not_eq_true'] at h | rw [Bool.not_eq_false'] at h | skip) <;> (try rw [h]) <;> (first | replace h := of_decide_eq_true h | replace h := of_decide_eq_false h | replace h := eq_of_beq h | replace h := bne_iff_ne.1 h | replace h := beq_eq_false_iff_ne.1 h | replace h := bne_eq_false_iff_eq.1 h | skip) <;> conv => whnf)
  rfl

theorem c_cchkN (z : Sli SerV) (hs : smallT (Tab z)) (ht : tabR (Tab z) = false) : Ct Tryz.prog 26 [] [z.sv] [z.f encSer 12, allF z.l] (Rv (.int .i64 120)) := by
  refine Ct.of Tryz.func26 rfl (n := 6) rfl rfl rfl ?_
  conv => whnf
  repeat' first
    | (refine Ob.mk rfl ?_; conv => whnf)
    | (refine Nx.mk ?_; conv => whnf)
    | (refine BR.yes ?_; conv => whnf)
    | (refine BR.no ?_; conv => whnf)
    | (show CallK _ _ 15 _ _ _ _; refine CallK.rv (c_tabRX z hs ht) (by repeat' (first | exact trivial | exact .head _ | apply List.Mem.tail | apply And.intro)) (Nx.go ?_))
    | (refine AR.i64 (by omega) ?_; conv => whnf)
    | (refine AR.u64 (by omega) ?_; conv => whnf)
    | (refine AR.u8 (by omega) ?_; conv => whnf)
    | (refine Ob.mk (by omega) ?_; conv => whnf)
    | (refine BR.mk (fun h => ?_) (fun h => ?_) <;> (first | rw [Bool.not_eq_true'] at h | rw [Bool.not_eq_false'] at h | skip) <;> (try rw [h]) <;> (first | replace h := of_decide_eq_true h | replace h := of_decide_eq_false h | replace h := eq_of_beq h | replace h := bne_iff_ne.1 h | replace h := beq_eq_false_iff_ne.1 h | replace h := bne_eq_false_iff_eq.1 h | skip) <;> conv => whnf)
  rfl

theorem c_firstT (x : Sli Int) (hx : x.l = [0]) : Ct Tryz.prog 25 [] [x.sv] [x.f encI 1] (Rv (.raw .nilIface)) := by
  have hl : x.l.length = 1 := by rw [hx]; rfl
  refine Ct.of Tryz.func25 rfl (n := 17) rfl rfl rfl ?_
  conv => whnf
  repeat' first
    | (refine Ob.mk rfl ?_; conv => whnf)
    | (refine Nx.mk ?_; conv => whnf)
    | (refine BR.yes ?_; conv => whnf)
    | (refine BR.no ?_; conv => whnf)
    | (show SemC _ _ _ (.loop (.seq (.region 2 _ _) _)) _ _ _ _ _; refine SemC.loopC (c := (.seq (.region 2 _ _) _)) (fun i : Nat => [(7, .int .i64 i)]) (fun i => i ≤ 1) (fun i => 1 - i) 0 ?_; (conv => whnf); refine LoopQ.mk ?_ ⟨(by repeat (first | exact trivial | refine ⟨rfl, ?_⟩ | refine ⟨congrArg (Value.int _) (by omega), ?_⟩)), Imp.refl⟩ (fun i hi => ?_))
    | (show Exists _; refine Exists.intro (i + 1) ⟨?_, ?_, rfl, ⟨(by repeat (first | exact trivial | refine ⟨rfl, ?_⟩ | refine ⟨congrArg (Value.int _) (by omega), ?_⟩)), Imp.refl⟩⟩)
    | (refine Idx.nat ?_; conv => whnf)
    | (refine Idx.is _ rfl ?_; conv => whnf)
    | (show HasP _ _ _ _ _ _; refine HasP.mk' (by repeat (first | exact .head _ | apply List.Mem.tail)) (Nx.go ?_))
    | (show RdE _ _ _ _ _ _ _; refine RdE.s (by repeat (first | exact .head _ | apply List.Mem.tail)) (by omega) (fun xe hxe => Nx.go ?_))
    | (show RdB _ _ _; refine RdB.mk' (by repeat (first | exact .head _ | apply List.Mem.tail)) (Nx.go ?_))
    | (refine AR.i64 (by omega) ?_; conv => whnf)
    | (refine AR.u64 (by omega) ?_; conv => whnf)
    | (refine AR.u8 (by omega) ?_; conv => whnf)
    | (refine Ob.mk (by omega) ?_; conv => whnf)
    | (refine BR.mk (fun h => ?_) (fun h => ?_) <;> (first | rw [Bool.not_eq_true'] at h | rw [Bool.not_eq_false'] at h | skip) <;> (try rw [h]) <;> (first | replace h := of_decide_eq_true h | replace h := of_decide_eq_false h | replace h := eq_of_beq h | replace h := bne_iff_ne.1 h | replace h := beq_eq_false_iff_ne.1 h | replace h := bne_eq_false_iff_eq.1 h | skip) <;> conv => whnf)
  all_goals (try (have h9 : xe = 0 := by rw [hx] at hxe; obtain rfl : i = 0 := (by omega); simpa using hxe.symm))
  all_goals first | omega | exact absurd h9 h | rfl

theorem c_firstN (x : Sli Int) (n : Int) (h0 : n ≠ 0) (hx : x.l = [n]) : Ct Tryz.prog 25 [] [x.sv] [x.f encI 1] (Rv (wrongC n)) := by
  have hl : x.l.length = 1 := by rw [hx]; rfl
  refine Ct.of Tryz.func25 rfl (n := 17) rfl rfl rfl ?_
  conv => whnf
  repeat' first
    | (refine Ob.mk rfl ?_; conv => whnf)
    | (refine Nx.mk ?_; conv => whnf)
    | (refine BR.yes ?_; conv => whnf)
    | (refine BR.no ?_; conv => whnf)
    | (show SemC _ _ _ (.loop (.seq (.region 2 _ _) _)) _ _ _ _ _; refine SemC.loopC (c := (.seq (.region 2 _ _) _)) (fun i : Nat => [(7, .int .i64 i)]) (fun i => i = 0) (fun i => 1 - i) 0 ?_; (conv => whnf); refine LoopQ.mk ?_ ⟨(by repeat (first | exact trivial | refine ⟨rfl, ?_⟩ | refine ⟨congrArg (Value.int _) (by omega), ?_⟩)), Imp.refl⟩ (fun i hi => ?_))
    | (show Exists _; refine Exists.intro (i + 1) ⟨?_, ?_, rfl, ⟨(by repeat (first | exact trivial | refine ⟨rfl, ?_⟩ | refine ⟨congrArg (Value.int _) (by omega), ?_⟩)), Imp.refl⟩⟩)
    | (refine Idx.nat ?_; conv => whnf)
    | (refine Idx.is _ rfl ?_; conv => whnf)
    | (show HasP _ _ _ _ _ _; refine HasP.mk' (by repeat (first | exact .head _ | apply List.Mem.tail)) (Nx.go ?_))
    | (show RdE _ _ _ _ _ _ _; refine RdE.s (by repeat (first | exact .head _ | apply List.Mem.tail)) (by omega) (fun xe hxe => Nx.go ?_))
    | (show RdB _ _ _; refine RdB.mk' (by repeat (first | exact .head _ | apply List.Mem.tail)) (Nx.go ?_))
    | (refine AR.i64 (by omega) ?_; conv => whnf)
    | (refine AR.u64 (by omega) ?_; conv => whnf)
    | (refine AR.u8 (by omega) ?_; conv => whnf)
    | (refine Ob.mk (by omega) ?_; conv => whnf)
    | (refine BR.mk (fun h => ?_) (fun h => ?_) <;> (first | rw [Bool.not_eq_true'] at h | rw [Bool.not_eq_false'] at h | skip) <;> (try rw [h]) <;> (first | replace h := of_decide_eq_true h | replace h := of_decide_eq_false h | replace h := eq_of_beq h | replace h := bne_iff_ne.1 h | replace h := beq_eq_false_iff_ne.1 h | replace h := bne_eq_false_iff_eq.1 h | skip) <;> conv => whnf)
  all_goals (try (have h9 : xe = n := by rw [hx] at hxe; subst hi; simpa using hxe.symm))
  all_goals first | omega | (rw [h9]; rfl) | exact absurd (h9 ▸ h) h0 | rfl
end Go.Proofs.YtfgnkadbpjiaiaaGreatDoor

/- clock: K10 -/
namespace Go.Proofs.YtfgnkadbpjiaiaaGreatDoor
open Go.Proofs.YtfgnkadbpjiaiaaGreatDoor.W
set_option maxRecDepth 100000
set_option linter.unusedVariables false
theorem i_steps0 (b1 b2 : Nat) (T : TypeId) (hl : List SV) (k l : Int) : It Tryz.prog 113 [] [.raw (.pointer (some ⟨b1, 0, none⟩)), .raw (.pointer (some ⟨b2, 0, none⟩))] [blkF b1 [.iface T (.agg hl), .int .i64 k, .int .i64 l] 113, blkF b2 [.int .i64 l] 3] (([] : List (List SV)).map dens) (fun _ _ => True) := by
  refine It.of Tryz.func113 rfl (n := 27) rfl rfl rfl (fun lp => ?_)
  conv => whnf
  repeat' first
    | (show BR (decide (l < l)) _ _; refine BR.noK (decide_eq_false (by omega)) ?_; conv => whnf)
    | (refine Ob.mk rfl ?_; conv => whnf)
    | (refine Nx.mk ?_; conv => whnf)
    | (refine BR.yes ?_; conv => whnf)
    | (refine BR.no ?_; conv => whnf)
    | (show SemC _ _ _ (.loop (.seq (.seq (.region 0 _ _) _) _)) _ _ _ _ _; refine SemC.loopB (c := (.seq (.seq (.region 0 _ _) _) _)) (fun j : Unit => []) (fun j => [(0, .seq lp (([] : List (List SV)).map dens) (some 0))]) (fun j => True) (fun j => 0) () ?_; (conv => whnf); refine LoopQ.mk ?_ ⟨(by repeat (first | exact trivial | refine ⟨rfl, ?_⟩ | refine ⟨congrArg (Value.int _) (by omega), ?_⟩)), Imp.refl⟩ (fun j hi => ?_))
    | (refine Ob.mk ⟨rfl, ?_⟩ ⟨Nx.go ?_, Nx.go ?_⟩)
    | (exact ⟨_, _, rfl, Or.inl rfl, trivial⟩)
    | (refine ⟨_, _, rfl, Or.inr (congrArg some ?_), trivial⟩)
    | (show RdB _ _ _; refine RdB.mk' (by repeat (first | exact .head _ | apply List.Mem.tail)) (Nx.go ?_))
    | (refine AR.i64 (by omega) ?_; conv => whnf)
    | (refine AR.u64 (by omega) ?_; conv => whnf)
    | (refine AR.u8 (by omega) ?_; conv => whnf)
    | (refine Ob.mk (by omega) ?_; conv => whnf)
    | (refine BR.mk (fun h => ?_) (fun h => ?_) <;> (first | rw [Bool.not_eq_true'] at h | rw [Bool.not_eq_false'] at h | skip) <;> (try rw [h]) <;> (first | replace h := of_decide_eq_true h | replace h := of_decide_eq_false h | replace h := eq_of_beq h | replace h := bne_iff_ne.1 h | replace h := beq_eq_false_iff_ne.1 h | replace h := bne_eq_false_iff_eq.1 h | skip) <;> conv => whnf)
  all_goals first | trivial | rfl

theorem c_steps (T : TypeId) (hl : List SV) (k l : Int) : Ct Tryz.prog 95 [] [.agg [.iface T (.agg hl), .int .i64 k, .int .i64 l], .int .i64 l] [] (Rs (fun b : Nat × Nat => .fn 113 [] [.raw (.pointer (some ⟨b.1, 0, none⟩)), .raw (.pointer (some ⟨b.2, 0, none⟩))]) (fun _ => []) (fun b => [blkF b.1 [.iface T (.agg hl), .int .i64 k, .int .i64 l] 113, blkF b.2 [.int .i64 l] 3]) (fun _ => True)) := by
  refine Ct.post (Ct.of Tryz.func95 rfl (n := 6) rfl rfl rfl ?_)
  conv => whnf
  repeat' first
    | (refine Ob.mk rfl ?_; conv => whnf)
    | (refine Nx.mk ?_; conv => whnf)
    | (intro bk; conv => whnf)
    | (show Post _ _ _ _ _; refine Rs.post (_, _) rfl ((Imp.pubCells 0 rfl).trans ((Imp.pubCells 1 rfl).trans (Imp.fs ?_))) trivial; exact ⟨.tail _ (.head _), .head _, trivial⟩)
    | (show Post _ _ _ _ _; refine Rs.post (_, _) rfl ((Imp.pubCells 0 rfl).trans ((Imp.pubCells 1 rfl).trans (Imp.fs ?_))) trivial; exact ⟨.head _, .tail _ (.head _), trivial⟩)
    | (refine Ob.mk (by omega) ?_; conv => whnf)

theorem c_to0 (T : TypeId) (hl : List SV) (k l : Int) : Ct Tryz.prog 69 [] [.agg [.iface T (.agg hl), .int .i64 k, .int .i64 l], .int .i64 l] [] (Rv (.tup [.agg [.iface T (.agg hl), .int .i64 k, .int .i64 l], .raw .nilIface])) := by
  refine Ct.of Tryz.func69 rfl (n := 20) rfl rfl rfl ?_
  conv => whnf
  repeat' first
    | (refine Ob.mk rfl ?_; conv => whnf)
    | (refine Nx.mk ?_; conv => whnf)
    | (refine BR.yes ?_; conv => whnf)
    | (refine BR.no ?_; conv => whnf)
    | (intro bk; conv => whnf)
    | (show CallK _ _ 95 _ _ _ _; refine CallK.rf (c_steps T hl k l) (by repeat' (first | exact trivial | exact .head _ | apply List.Mem.tail | apply And.intro)) (fun b hb => Nx.go ?_))
    | (show SemC _ _ _ (.rangeFunc _ _ (.seq (.region 3 _ _) _) _) _ _ _ _ _; refine SemC.rangeC (σ := Unit) (fun lb _ => lb) (fun _ _ => True) (fun c x => False) (([] : List (List SV))) 3 (i_steps0 b.1 b.2 T hl k l) (()) ?_ (fun _ => rfl) (fun D r => Imp.to 5 rfl (by repeat' (first | exact trivial | exact .head _ | apply List.Mem.tail | apply And.intro))) (by repeat' (first | exact trivial | exact .head _ | apply List.Mem.tail | apply And.intro)) rfl (fun D rc nr x a hx ha => ?_) (fun D x o hx => ?_) (fun D c x o hx => ?_))
    | (refine Nx1.mk ?_; exact nomatch ha)
    | (refine Nx2.mk ?_; exact hx.elim)
    | (show EndS _ _ _ _ _ _ _; refine EndS.mark 3 rfl rfl (fun o => Nx.go ?_))
    | (refine Ob.mk ⟨rfl, rfl⟩ ?_; conv => whnf)
    | (refine SemC.draw 8 [1] [.t 0, .m 1, .w 2, .t 3] (by kernel_rfl) (by kernel_rfl) ?_; conv => whnf)
    | (show RdB _ _ _; refine RdB.mk' (by repeat (first | exact .head _ | apply List.Mem.tail)) (Nx.go ?_))
    | (refine AR.i64 (by omega) ?_; conv => whnf)
    | (refine AR.u64 (by omega) ?_; conv => whnf)
    | (refine AR.u8 (by omega) ?_; conv => whnf)
    | (refine Ob.mk (by omega) ?_; conv => whnf)
    | (refine BR.mk (fun h => ?_) (fun h => ?_) <;> (first | rw [Bool.not_eq_true'] at h | rw [Bool.not_eq_false'] at h | skip) <;> (try rw [h]) <;> (first | replace h := of_decide_eq_true h | replace h := of_decide_eq_false h | replace h := eq_of_beq h | replace h := bne_iff_ne.1 h | replace h := beq_eq_false_iff_ne.1 h | replace h := bne_eq_false_iff_eq.1 h | skip) <;> conv => whnf)
  all_goals first | trivial | rfl

theorem rightS_end {x : Sk} (h : rightS x = true) : endS x = x ∧ okS x = true ∧ (x.kind = 1 ∨ x.kind = 2 ∨ x.kind = 3) ∧ x.level ≤ botI x.kind := by
  simp only [rightS, Bool.and_eq_true, decide_eq_true_eq] at h
  exact ⟨h.2, h.1.2, h.1.1.1, h.1.1.2.2⟩
theorem sub_at {Φ Φ0 : Facts} (h : ∀ F ∈ Φ, F ∈ Φ0) (A : Nat → Prop) (w : World) (hh : Hold Φ0 A w) : Hold Φ A w := fun F hF => hh F (h F hF)
theorem c_endX (x : SkV) (v : SV) (he : x.e.l.length ≤ 1000000) (hc : x.c.l.length ≤ 1000000) (hg : x.g.l.length ≤ 1000000) (hr : x.regs.length ≤ 1000000) (h : rightS x.sk = true) (hv : heldV x = v) : Ct Tryz.prog 93 [] [.agg [v, .int .i64 x.kind, .int .i64 x.level]] x.fs (Rs SkV.sv (fun _ => []) SkV.fs (fun z => z.sk = x.sk)) := by
  subst hv
  obtain ⟨h1, h2, h3, _⟩ := rightS_end h
  unfold heldV
  have key : ∀ (y : Sk), endS x.sk = y → ∀ {Φ : Facts} {args : List SV}, Ct Tryz.prog 93 [] args Φ (Rs SkV.sv (fun _ => []) SkV.fs (fun z => z.sk = y)) → (∀ F ∈ Φ, F ∈ x.fs) → Ct Tryz.prog 93 [] args x.fs (Rs SkV.sv (fun _ => []) SkV.fs (fun z => z.sk = x.sk)) := by
    intro y hy Φ args hct hs
    have hyx : y = x.sk := hy.symm.trans h1
    subst hyx
    exact ct_facts hct fun A w hh => sub_at hs A w hh
  have k1 : x.sk.kind = x.kind := rfl
  have k2 : x.sk.level = x.level := rfl
  by_cases hk : x.kind = 1
  · rw [if_pos hk]
    by_cases hz : x.level = 0
    · rw [if_pos hz]
      exact key _ (by rw [endS, if_pos (show x.sk.kind = 1 from hk), if_pos (show x.sk.level = 0 from hz)]; rfl) (c_endS x.e he x.kind x.level) (by simp [SkV.fs])
    · rw [if_neg hz]
      rw [okS, if_pos (show x.sk.kind = 1 from hk), if_neg (show ¬ x.sk.level = 0 from hz), Bool.and_eq_true] at h2
      exact key _ (by rw [endS, if_pos (show x.sk.kind = 1 from hk), if_neg (show ¬ x.sk.level = 0 from hz)]; rfl) (c_endR x.bits x.regs (hllRight_bits h2.1) (by omega) x.kind x.level) (by simp)
  · rw [if_neg hk]
    by_cases hk2 : x.kind = 2
    · rw [if_pos hk2]
      exact key _ (by rw [endS, if_neg (show ¬ x.sk.kind = 1 from hk), if_pos (show x.sk.kind = 2 from hk2)]; rfl) (c_endC x.rows x.cols x.c hc x.kind x.level) (by simp [SkV.fs])
    · rw [if_neg hk2]
      exact key _ (by rw [endS, if_neg (show ¬ x.sk.kind = 1 from hk), if_neg (show ¬ x.sk.kind = 2 from hk2)]; rfl) (c_endH x.fine x.g hg x.kind x.level) (by simp [SkV.fs])

theorem c_ended (x : SkV) (T : TypeId) (hl : List SV) (he : x.e.l.length ≤ 1000000) (hc : x.c.l.length ≤ 1000000) (hg : x.g.l.length ≤ 1000000) (hr : x.regs.length ≤ 1000000) (h : rightS x.sk = true) (hv : heldV x = .iface T (.agg hl)) : Ct Tryz.prog 67 [] [.agg [.iface T (.agg hl), .int .i64 x.kind, .int .i64 x.level], .raw .nilIface] x.fs (Rs (fun z : SkV => .tup [z.sv, .int .i64 0]) (fun _ => []) SkV.fs (fun z => z.sk = x.sk)) := by
  refine Ct.post (Ct.of Tryz.func67 rfl (n := 13) rfl rfl rfl ?_)
  conv => whnf
  repeat' first
    | (refine Ob.mk rfl ?_; conv => whnf)
    | (refine Nx.mk ?_; conv => whnf)
    | (refine BR.yes ?_; conv => whnf)
    | (refine BR.no ?_; conv => whnf)
    | (intro bk; conv => whnf)
    | (show CallK _ _ 93 _ _ _ _; refine CallK.rf (c_endX x _ he hc hg hr h hv) (by repeat' (first | exact trivial | exact .head _ | apply List.Mem.tail | apply And.intro)) (fun z hz => Nx.go ?_))
    | (show Post _ _ _ _ _; exact Rs.post z rfl (Imp.fs (by repeat' (first | exact trivial | exact .head _ | apply List.Mem.tail | apply And.intro))) hz)
    | (show RdB _ _ _; refine RdB.mk' (by repeat (first | exact .head _ | apply List.Mem.tail)) (Nx.go ?_))
    | (refine AR.i64 (by omega) ?_; conv => whnf)
    | (refine AR.u64 (by omega) ?_; conv => whnf)
    | (refine AR.u8 (by omega) ?_; conv => whnf)
    | (refine Ob.mk (by omega) ?_; conv => whnf)
    | (refine BR.mk (fun h => ?_) (fun h => ?_) <;> (first | rw [Bool.not_eq_true'] at h | rw [Bool.not_eq_false'] at h | skip) <;> (try rw [h]) <;> (first | replace h := of_decide_eq_true h | replace h := of_decide_eq_false h | replace h := eq_of_beq h | replace h := bne_iff_ne.1 h | replace h := beq_eq_false_iff_ne.1 h | replace h := bne_eq_false_iff_eq.1 h | skip) <;> conv => whnf)

theorem c_toS (x : SkV) (he : x.e.l.length ≤ 1000000) (hc : x.c.l.length ≤ 1000000) (hg : x.g.l.length ≤ 1000000) (hr : x.regs.length ≤ 1000000) (h0 : rightS x.sk = true) : Ct Tryz.prog 46 [] [x.sv, .int .i64 x.level] x.fs (Rs (fun z : SkV => .tup [z.sv, .int .i64 0]) (fun _ => []) SkV.fs (fun z => z.sk = x.sk)) := by
  obtain ⟨T, hl, hv⟩ := heldV_iface x
  have hb : ¬ x.level > botI x.kind := (by have h9 : x.level ≤ botI x.kind := (rightS_end h0).2.2.2; omega)
  refine Ct.post (Ct.of Tryz.func46 rfl (n := 41) rfl rfl rfl ?_)
  conv => whnf
  repeat' first
    | (show BR (decide (x.level > botI x.kind)) _ _; refine BR.noK (decide_eq_false hb) ?_; conv => whnf)
    | (refine Ob.mk rfl ?_; conv => whnf)
    | (refine Nx.mk ?_; conv => whnf)
    | (refine BR.yes ?_; conv => whnf)
    | (refine BR.no ?_; conv => whnf)
    | (intro bk; conv => whnf)
    | (show CallK _ _ 66 _ _ _ _; refine CallK.rv (c_startT x _ he hc hg (by omega) h0 hv) (by repeat' (first | exact trivial | exact .head _ | apply List.Mem.tail | apply And.intro)) (Nx.go ?_))
    | (show CallK _ _ 68 _ _ _ _; refine CallK.rv (c_bot x.kind) (by repeat' (first | exact trivial | exact .head _ | apply List.Mem.tail | apply And.intro)) (Nx.go ?_))
    | (show CallK _ _ 69 _ _ _ _; refine CallK.rv (c_to0 T hl x.kind x.level) (by repeat' (first | exact trivial | exact .head _ | apply List.Mem.tail | apply And.intro)) (Nx.go ?_))
    | (show CallK _ _ 67 _ _ _ _; refine CallK.rf (c_ended x T hl he hc hg hr h0 hv) (by repeat' (first | exact trivial | exact .head _ | apply List.Mem.tail | apply And.intro)) (fun z hz => Nx.go ?_))
    | (show Post _ _ _ _ _; exact Rs.post z rfl (Imp.fs (by repeat' (first | exact trivial | exact .head _ | apply List.Mem.tail | apply And.intro))) hz)
    | (show RdB _ _ _; refine RdB.mk' (by repeat (first | exact .head _ | apply List.Mem.tail)) (Nx.go ?_))
    | (refine AR.i64 (by omega) ?_; conv => whnf)
    | (refine AR.u64 (by omega) ?_; conv => whnf)
    | (refine AR.u8 (by omega) ?_; conv => whnf)
    | (refine Ob.mk (by omega) ?_; conv => whnf)
    | (refine BR.mk (fun h => ?_) (fun h => ?_) <;> (first | rw [Bool.not_eq_true'] at h | rw [Bool.not_eq_false'] at h | skip) <;> (try rw [h]) <;> (first | replace h := of_decide_eq_true h | replace h := of_decide_eq_false h | replace h := eq_of_beq h | replace h := bne_iff_ne.1 h | replace h := beq_eq_false_iff_ne.1 h | replace h := bne_eq_false_iff_eq.1 h | skip) <;> conv => whnf)
end Go.Proofs.YtfgnkadbpjiaiaaGreatDoor

/- clock: K11 -/
namespace Go.Proofs.YtfgnkadbpjiaiaaGreatDoor
open Go.Proofs.YtfgnkadbpjiaiaaGreatDoor.W
set_option maxRecDepth 100000
set_option linter.unusedVariables false
abbrev nilL : Sli Lab := ⟨[], none, 0⟩
abbrev ser0 : SerV := ⟨nilL, sk0, 0⟩
structure RowJ where
  i : Nat
  l : List SerV
theorem L_at {l : List SerV} {i : Nat} {x : SerV} (h : l[i]? = some x) (A : Nat → Prop) (w : World) (hh : Hold [allF l] A w) : Hold [x.L.f encLab 2] A w := by
  rintro F (_ | ⟨_, _ | ⟨_, h⟩⟩)
  exact all_at h A w hh _ (.head _)
theorem S_at {l : List SerV} {i : Nat} {x : SerV} (h : l[i]? = some x) (A : Nat → Prop) (w : World) (hh : Hold [allF l] A w) : Hold x.S.fs A w := fun F hF => all_at h A w hh F (.tail _ hF)
theorem own_last {l : List SerV} {i : Nat} {x x0 x1 : SerV} {y : Sli Lab} (h : l[i]? = some x) (h0 : l[i]? = some x0) (h1 : (l.set i {x0 with L := y})[i]? = some x1) : x1 = {x with L := y} := by
  obtain rfl : x = x0 := Option.some.inj (h.symm.trans h0)
  rw [List.getElem?_set_self (List.getElem?_eq_some_iff.1 h).1] at h1
  exact (Option.some.inj h1).symm
theorem own_step {l : List SerV} {i : Nat} {x x0 x1 : SerV} {y : Sli Lab} {z : SkV} (h : l[i]? = some x) (h0 : l[i]? = some x0) (h1 : (l.set i {x0 with L := y})[i]? = some x1) (hy : y.l = x.L.l) (hz : z.sk = x.S.sk) :
    ((l.set i {x0 with L := y}).set i {x1 with S := z}).map SerV.ser = l.map SerV.ser := by
  obtain rfl := own_last h h0 h1
  rw [List.set_set, List.map_set, show SerV.ser { x with L := y, S := z } = x.ser by rw [SerV.ser, SerV.ser, hy, hz]]
  obtain ⟨hlt, rfl⟩ := List.getElem?_eq_some_iff.1 h
  rw [← List.getElem_map (h := by rw [List.length_map]; exact hlt) SerV.ser]
  exact List.set_getElem_self _
theorem Imp.all2 {P : Program} {lb : LBs} {Φ : Facts} {l : List SerV} {i : Nat} {x x0 x1 : SerV} {y : Sli Lab} {z : SkV} (h : l[i]? = some x) (h0 : l[i]? = some x0) (h1 : (l.set i {x0 with L := y})[i]? = some x1) (hm : allF l ∈ Φ) (hs : SubK (y.f encLab 2 :: z.fs) Φ) :
    Imp P lb Φ lb (allF ((l.set i {x0 with L := y}).set i {x1 with S := z}) :: Φ) := Imp.fact fun A w hh v hv => by
  obtain rfl := own_last h h0 h1
  rw [List.set_set] at hv
  rcases List.mem_or_eq_of_mem_set hv with hv | rfl
  · exact hh _ hm v hv
  · exact fun F hF => hh F (hs.ok F hF)
theorem Imp.allX {P : Program} {lb : LBs} {Φ : Facts} {l l' : List SerV} (hm : allF l ∈ Φ) (h : ∀ y ∈ l', y ∈ l) : Imp P lb Φ lb (allF l' :: Φ) := Imp.fact fun _ _ hh y hy => hh _ hm y (h y hy)
theorem own_in {l : List SerV} (n : Nat) (h : l.length = n) (a : SerV) : l.take (min l.length n) ++ (List.replicate n a).drop (min l.length n) = l := by
  subst h
  rw [Nat.min_self, List.drop_eq_nil_of_le (by rw [List.length_replicate]; exact Nat.le_refl _), List.append_nil, List.take_length]
theorem sml_at {l : List SerV} {t : List Ser} (hl : l.map SerV.ser = t) (hs : smallT t) {i : Nat} {x : SerV} (h : l[i]? = some x) : small1 x.ser := hs _ (by rw [← hl]; exact List.mem_map.2 ⟨x, List.mem_of_getElem? h, rfl⟩)
theorem tabR_mem {t : List Ser} (h : tabR t = true) {s : Ser} (hs : s ∈ t) : serC s = true := by
  simp only [tabR, Bool.and_eq_true, List.all_eq_true] at h
  exact h.1.2 s hs
theorem tabR_len {t : List Ser} (h : tabR t = true) : t.length ≤ 20 := by
  simp only [tabR, Bool.and_eq_true, decide_eq_true_eq] at h
  exact h.1.1
theorem rgt_at {l : List SerV} {t : List Ser} (hl : l.map SerV.ser = t) (ht : tabR t = true) {i : Nat} {x : SerV} (h : l[i]? = some x) : rightS x.S.sk = true := by
  have h1 := tabR_mem ht (s := x.ser) (by rw [← hl]; exact List.mem_map.2 ⟨x, List.mem_of_getElem? h, rfl⟩)
  rw [serC, Bool.and_eq_true] at h1
  exact h1.2
theorem lab_at {l : List SerV} {t : List Ser} (hl : l.map SerV.ser = t) (ht : tabR t = true) {i : Nat} {x : SerV} (h : l[i]? = some x) : x.L.l.length ≤ 6 := by
  have h1 := tabR_mem ht (s := x.ser) (by rw [← hl]; exact List.mem_map.2 ⟨x, List.mem_of_getElem? h, rfl⟩)
  simp only [serC, labR, Bool.and_eq_true, decide_eq_true_eq] at h1
  exact h1.1.1.1.2

theorem c_cloneL (x : Sli Lab) (hx : x.l.length ≤ 1000000) : Ct Tryz.prog 45 [] [x.sv] [x.f encLab 2] (Rs (fun y : Sli Lab => y.sv) (fun _ => []) (fun y => [y.f encLab 2]) (fun y => y.l = x.l)) := by
  refine Ct.pure (p := x.p = none → x.l = []) (List.Mem.head _) (fun A w h hp => by have h1 := h.2.2.isNil hp; have h2 := h.2.2.cap; exact List.eq_nil_of_length_eq_zero (by omega)) fun hnil => ?_
  refine Ct.post (Ct.of Tryz.func45 rfl (n := 8) rfl rfl rfl ?_)
  conv => whnf
  repeat' first
    | (show BinS _ _ _ _ _ _ (.raw (.slice none 0 0)) _; refine BinS.slNil rfl ?_; conv => whnf)
    | (show SemO _ _ (.buildSlice _ _ #[]) _ _ _ _ _; refine SemO.lit0 encLab ?_; (conv => whnf); intro p0; conv => whnf)
    | (show SemO _ _ (.call ⟨.builtin .append, _, _⟩) _ _ _ _ _; refine SemO.appendNew false ?_; (conv => whnf); show AppN _ _ _ _ _ _ _ _ _ _ _ _ _; refine ⟨⟨_, _, [], x.l, .fact (by repeat (first | exact .head _ | apply List.Mem.tail)), .fact (by repeat (first | exact .head _ | apply List.Mem.tail)), app_le (N := 1048576) ?_ (of_decide_eq_true (by kernel_rfl)), ?_, rfl, fun pv cv hcv => ?_⟩⟩ <;> first | (show (0 : Nat) + x.l.length ≤ _; omega) | (have e0 : 0 + x.l.length = x.l.length := Nat.zero_add _; rw [e0] at hcv; rw [e0]; conv => whnf))
    | (refine Ob.mk rfl ?_; conv => whnf)
    | (refine Nx.mk ?_; conv => whnf)
    | (refine BR.yes ?_; conv => whnf)
    | (refine BR.no ?_; conv => whnf)
    | (intro bk; conv => whnf)
    | (show Post _ _ _ _ _; have e := hnil (Option.isNone_iff_eq_none.1 h); exact Rs.post ⟨[], none, 0⟩ rfl ((Imp.nilF encLab 2).trans (Imp.fs (by repeat' (first | exact trivial | exact .head _ | apply List.Mem.tail | apply And.intro)))) e.symm)
    | (show Post _ _ _ _ _; exact Rs.post ⟨x.l, pv, cv⟩ rfl (Imp.fs (by repeat' (first | exact trivial | exact .head _ | apply List.Mem.tail | apply And.intro))) rfl)
    | (refine AR.i64 (by omega) ?_; conv => whnf)
    | (refine AR.u64 (by omega) ?_; conv => whnf)
    | (refine AR.u8 (by omega) ?_; conv => whnf)
    | (refine Ob.mk (by omega) ?_; conv => whnf)
    | (refine BR.mk (fun h => ?_) (fun h => ?_) <;> (first | rw [Bool.not_eq_true'] at h | rw [Bool.not_eq_false'] at h | skip) <;> (try rw [h]) <;> (first | replace h := of_decide_eq_true h | replace h := of_decide_eq_false h | replace h := eq_of_beq h | replace h := bne_iff_ne.1 h | replace h := beq_eq_false_iff_ne.1 h | replace h := bne_eq_false_iff_eq.1 h | skip) <;> conv => whnf)

theorem c_own (x : Sli SerV) (hs : smallT (Tab x)) (ht : tabR (Tab x) = true) : Ct Tryz.prog 29 [] [x.sv] [x.f encSer 12, allF x.l] (Rs (fun y : RowS => .vec 0 y.p y.n y.c) (fun y => [(y.b, .vec encSer 12 46 y.p y.n y.c y.l)]) (fun y => [allF y.l]) (fun y => y.n = y.l.length ∧ y.l.map SerV.ser = Tab x)) := by
  have hl : x.l.length ≤ 20 := (by have := tabR_len ht; rwa [Tab, List.length_map] at this)
  refine Ct.post (Ct.of Tryz.func29 rfl (n := 41) rfl rfl rfl ?_)
  conv => whnf
  repeat' first
    | (show SemO _ _ (.makeSlice _ _ _) _ _ _ _ _; refine SemO.make ?_; (conv => whnf); refine ⟨⟨SerV, encSer, ser0, rfl, okSer _, ?_, ?_, ?_, ?_, fun bk => ?_⟩⟩; rotate_left 4; conv => whnf)
    | (show SemO _ _ (.call ⟨.builtin .copy, _, _⟩) _ _ _ _ _; refine SemO.copy ?_; (conv => whnf); refine Ob.mk ⟨rfl, rfl, rfl, rfl, rfl⟩ ?_; refine ⟨⟨rfl, x.l, .fact (by repeat (first | exact .head _ | apply List.Mem.tail)), ?_⟩⟩; conv => whnf)
    | (show SemO _ _ (.store _ _ _) _ _ _ _ _; refine SemO.storeVel ?_; (conv => whnf); refine Ob.mk ⟨rfl, rfl, rfl, rfl, rfl, Nat.le_of_ble_eq_true rfl, by omega⟩ ?_)
    | (refine Ob.mk ⟨rfl, rfl, rfl, rfl, by omega⟩ ?_; conv => whnf)
    | (refine Ob.mk ⟨rfl, rfl, by omega⟩ ?_; conv => whnf)
    | (intro x1 hx1; show StQ _ _ 1 _ _; refine StQ.mk' ({x1 with S := z} : SerV) rfl ?_; conv => whnf)
    | (intro x0 hx0; show StQ _ _ 0 _ _; refine StQ.mk' ({x0 with L := y} : SerV) rfl ?_; conv => whnf)
    | (intro xe hxe; conv => whnf)
    | (refine Ob.mk rfl ?_; conv => whnf)
    | (refine Nx.mk ?_; conv => whnf)
    | (refine BR.yes ?_; conv => whnf)
    | (refine BR.no ?_; conv => whnf)
    | (intro bk; conv => whnf)
    | (show CallK _ _ _ _ _ _ _; refine CallK.rf (ct_facts (c_cloneL xe.L ?_) (L_at hxe)) (by repeat' (first | exact trivial | exact .head _ | apply List.Mem.tail | apply And.intro)) (fun y hy => Nx.go ?_))
    | (show CallK _ _ _ _ _ _ _; refine CallK.rf (ct_facts (c_toS xe.S ?_ ?_ ?_ ?_ ?_) (S_at hxe)) (by repeat' (first | exact trivial | exact .head _ | apply List.Mem.tail | apply And.intro)) (fun z hz => Nx.go ?_))
    | (show SemC _ _ _ (.loop (.seq (.region 4 _ _) _)) _ _ _ _ _; refine SemC.loopU (c := (.seq (.region 4 _ _) _)) (fun j : RowJ => [(3, .vec 0 (some ⟨bk, 0, none⟩) x.l.length x.l.length), (12, .vec 0 (some ⟨bk, 0, none⟩) x.l.length x.l.length), (14, .int .i64 j.i)]) (fun j => [(bk, .vec encSer 12 46 (some ⟨bk, 0, none⟩) x.l.length x.l.length j.l)]) (fun j => [allF j.l]) (fun j => j.i ≤ x.l.length ∧ j.l.map SerV.ser = Tab x) (fun j => x.l.length - j.i) ⟨0, x.l⟩ ?_; (conv => whnf); refine LoopQ.mk ?_ ⟨(by repeat (first | exact trivial | refine ⟨rfl, ?_⟩ | refine ⟨congrArg (Value.int _) (by omega), ?_⟩)), (by refine Imp.trans (Imp.eq (congrArg (fun l => [(bk, OB.vec encSer 12 46 (some ⟨bk, 0, none⟩) x.l.length x.l.length l)]) (own_in (l := x.l) (Int.toNat (x.l.length : Int)) rfl ser0))) ?_; exact Imp.to 1 rfl (by repeat' (first | exact trivial | exact .head _ | apply List.Mem.tail | apply And.intro)))⟩ (fun j hi => ?_))
    | (show Exists _; refine Exists.intro (⟨j.i + 1, (j.l.set j.i {x0 with L := y}).set j.i {x1 with S := z}⟩) ⟨?_, ?_, rfl, ⟨(by repeat (first | exact trivial | refine ⟨rfl, ?_⟩ | refine ⟨congrArg (Value.int _) (by omega), ?_⟩)), (Imp.all2 hxe hx0 hx1 (by repeat (first | exact .head _ | apply List.Mem.tail)) (by repeat' (first | exact trivial | exact .head _ | apply List.Mem.tail | apply And.intro))).trans (Imp.to 1 rfl (by repeat' (first | exact trivial | exact .head _ | apply List.Mem.tail | apply And.intro)))⟩⟩)
    | (show Post _ _ _ _ _; exact Rs.post ⟨0, bk, _, _, _, j.l⟩ rfl (Imp.to 1 rfl (by repeat' (first | exact trivial | exact .head _ | apply List.Mem.tail | apply And.intro))) ⟨by have := congrArg List.length hi.2; rw [List.length_map, Tab, List.length_map] at this; exact this.symm, hi.2⟩)
    | (refine Idx.nat ?_; conv => whnf)
    | (refine Idx.is _ rfl ?_; conv => whnf)
    | (show HasP _ _ _ _ _ _; refine HasP.mk' (by repeat (first | exact .head _ | apply List.Mem.tail)) (Nx.go ?_))
    | (show RdE _ _ _ _ _ _ _; refine RdE.s (by repeat (first | exact .head _ | apply List.Mem.tail)) (by omega) (fun xe hxe => Nx.go ?_))
    | (show RdB _ _ _; refine RdB.mk' (by repeat (first | exact .head _ | apply List.Mem.tail)) (Nx.go ?_))
    | (refine AR.i64 (by omega) ?_; conv => whnf)
    | (refine AR.u64 (by omega) ?_; conv => whnf)
    | (refine AR.u8 (by omega) ?_; conv => whnf)
    | (refine Ob.mk (by omega) ?_; conv => whnf)
    | (refine BR.mk (fun h => ?_) (fun h => ?_) <;> (first | rw [Bool.not_eq_true'] at h | rw [Bool.not_eq_false'] at h | skip) <;> (try rw [h]) <;> (first | replace h := of_decide_eq_true h | replace h := of_decide_eq_false h | replace h := eq_of_beq h | replace h := bne_iff_ne.1 h | replace h := beq_eq_false_iff_ne.1 h | replace h := bne_eq_false_iff_eq.1 h | skip) <;> conv => whnf)
  · exact ⟨Nat.zero_le _, rfl⟩
  · exact Nat.le_trans (lab_at hi.2 ht hxe) (by decide)
  · have h9 := (sml_at hi.2 hs hxe).2.1; exact Nat.le_trans h9 (by decide)
  · have h9 := (sml_at hi.2 hs hxe).2.2.1; exact Nat.le_trans h9 (by decide)
  · have h9 := (sml_at hi.2 hs hxe).2.2.2.1; exact Nat.le_trans h9 (by decide)
  · have h9 := (sml_at hi.2 hs hxe).2.2.2.2; exact Nat.le_trans h9 (by decide)
  · exact rgt_at hi.2 ht hxe
  · exact ⟨by show j.i + 1 ≤ _; omega, (own_step hxe hx0 hx1 hy hz).trans hi.2⟩
  · show x.l.length - (j.i + 1) < _; omega
  · omega
  · omega
  · refine Int.le_trans (Int.mul_le_mul_of_nonneg_left (show (x.l.length : Int) ≤ 20 by omega) (Int.natCast_nonneg _)) ?_; exact of_decide_eq_true (by kernel_rfl)
  · omega
end Go.Proofs.YtfgnkadbpjiaiaaGreatDoor

/- clock: K12 -/
namespace Go.Proofs.YtfgnkadbpjiaiaaGreatDoor
open Go.Proofs.YtfgnkadbpjiaiaaGreatDoor.W
set_option maxRecDepth 100000
set_option linter.unusedVariables false
/-- the place of the first one that is stale -/
structure Fst (g : SerV → Bool) (l : List SerV) (k : Nat) : Prop where
  lt : k < l.length
  no : ∀ i x, i < k → l[i]? = some x → g x = false
  yes : ∀ x, l[k]? = some x → g x = true
theorem fst_or (g : SerV → Bool) : ∀ l : List SerV, (∀ (i : Nat) (x : SerV), l[i]? = some x → g x = false) ∨ ∃ k, Fst g l k
  | [] => .inl fun i x h => by simp at h
  | a :: l => by
    rcases ha : g a with _ | _
    · rcases fst_or g l with h | ⟨k, h1, h2, h3⟩
      · refine .inl fun i x hi => ?_
        match i with
        | 0 => cases hi; exact ha
        | i + 1 => exact h i x hi
      · refine .inr ⟨k + 1, by simpa using h1, fun i x hik hi => ?_, fun x hx => h3 x hx⟩
        match i with
        | 0 => cases hi; exact ha
        | i + 1 => exact h2 i x (by omega) hi
    · exact .inr ⟨0, by simp, fun i x h => absurd h (by omega), fun x hx => by cases hx; exact ha⟩
def keepL (g : SerV → Bool) (l : List SerV) : List SerV := l.filter fun x => !g x
theorem keepL_all {g : SerV → Bool} {l : List SerV} (h : ∀ (i : Nat) (x : SerV), l[i]? = some x → g x = false) : keepL g l = l := by
  refine List.filter_eq_self.2 fun x hx => ?_
  obtain ⟨i, hi⟩ := List.mem_iff_getElem?.1 hx
  rw [h i x hi]; rfl
theorem keepL_first {g : SerV → Bool} {l : List SerV} {k : Nat} (h : Fst g l k) : keepL g (l.take (k + 1)) = l.take k := by
  obtain ⟨x, hx⟩ : ∃ x, l[k]? = some x := ⟨_, List.getElem?_eq_getElem h.lt⟩
  rw [take_snoc hx, keepL, List.filter_append, List.filter_cons_of_neg (by simp [h.yes x hx]), List.filter_nil, List.append_nil]
  refine keepL_all fun i y hi => ?_
  have hik : i < k := by
    have := (List.getElem?_eq_some_iff.1 hi).1
    rw [List.length_take] at this; omega
  exact h.no i y hik (by rw [List.getElem?_take_of_lt hik] at hi; exact hi)
/-- behind j of them, i of them are kept -/
structure Mid (g : SerV → Bool) (l m : List SerV) (i j : Nat) : Prop where
  len : m.length = l.length
  ij : i < j
  jn : j ≤ l.length
  head : m.take i = keepL g (l.take j)
  tail : m.drop j = l.drop j
theorem Mid.start {g : SerV → Bool} {l : List SerV} {k : Nat} (h : Fst g l k) : Mid g l l k (k + 1) := ⟨rfl, Nat.lt_succ_self _, h.lt, (keepL_first h).symm, rfl⟩
theorem Mid.at {g : SerV → Bool} {l m : List SerV} {i j : Nat} {x : SerV} (h : Mid g l m i j) (hx : m[j]? = some x) : l[j]? = some x := by
  have := congrArg (·[0]?) h.tail
  simp only [List.getElem?_drop, Nat.add_zero] at this
  rw [← this, hx]
theorem Mid.tail1 {g : SerV → Bool} {l m : List SerV} {i j : Nat} (h : Mid g l m i j) : m.drop (j + 1) = l.drop (j + 1) := by
  rw [← List.drop_drop, ← List.drop_drop, h.tail]
theorem Mid.no {g : SerV → Bool} {l m : List SerV} {i j : Nat} {x : SerV} (h : Mid g l m i j) (hx : m[j]? = some x) (hg : g x = true) : Mid g l m i (j + 1) := by
  have hl := h.at hx
  refine ⟨h.len, by have := h.ij; omega, (List.getElem?_eq_some_iff.1 hl).1, ?_, h.tail1⟩
  rw [h.head, take_snoc hl, keepL, keepL, List.filter_append, List.filter_cons_of_neg (by simp [hg]), List.filter_nil, List.append_nil]
theorem Mid.yes {g : SerV → Bool} {l m : List SerV} {i j : Nat} {x : SerV} (h : Mid g l m i j) (hx : m[j]? = some x) (hg : g x = false) : Mid g l (m.set i x) (i + 1) (j + 1) := by
  have hl := h.at hx
  have h1 := h.ij
  have h2 := (List.getElem?_eq_some_iff.1 hl).1
  have h3 := h.len
  refine ⟨by rw [List.length_set]; exact h.len, by omega, h2, ?_, ?_⟩
  · rw [take_snoc (List.getElem?_set_self (by omega)), List.take_set_of_le (Nat.le_refl i), h.head, take_snoc hl, keepL, keepL, List.filter_append, List.filter_cons_of_pos (by simp [hg]), List.filter_nil]
  · rw [List.drop_set_of_lt (by omega)]; exact h.tail1
theorem Mid.end' {g : SerV → Bool} {l m : List SerV} {i j : Nat} {z : List SerV} (h : Mid g l m i j) (hj : j = l.length) : ((m.take i) ++ z).take i = keepL g l := by
  have hl := h.len
  have hi := h.ij
  have e : (m.take i).length = i := by rw [List.length_take]; omega
  rw [List.take_append_of_le_length (by omega), List.take_take, Nat.min_self, h.head, hj, List.take_length]
structure Del where
  i : Nat
  j : Nat
  m : List SerV
structure RowD where
  p : Option Addr
  n : Nat
  c : Nat
  l : List SerV
abbrev stV2 (now life : UInt64) (x : SerV) : Bool := staleS now life x.ser

theorem c_idxON (now life : UInt64) (b : Nat) (p : Option Addr) (n c : Nat) (l : List SerV) (hn : l.length = n) (hc : n ≤ 1000)(h0 : ∀ (i : Nat) (x : SerV), l[i]? = some x → stV2 now life x = false) : Ct Tryz.prog 44 [(b, .vec encSer 12 46 p n c l)] [.vec 0 p n c, .fn 30 [.agg [.int .u64 now.toNat, .int .u64 life.toNat]] []] [] (Rs (fun _ : Unit => .int .i64 (-1)) (fun _ => [(b, .vec encSer 12 46 p n c l)]) (fun _ => []) (fun _ => True)) := by
  refine Ct.post (Ct.of Tryz.func44 rfl (n := 19) rfl rfl rfl ?_)
  conv => whnf
  repeat' first
    | (refine Ob.mk ⟨rfl, rfl, rfl, rfl, by omega⟩ ?_; conv => whnf)
    | (refine Ob.mk ⟨rfl, rfl, by omega⟩ ?_; conv => whnf)
    | (intro xe hxe; conv => whnf)
    | (refine Ob.mk rfl ?_; conv => whnf)
    | (refine Nx.mk ?_; conv => whnf)
    | (refine BR.yes ?_; conv => whnf)
    | (refine BR.no ?_; conv => whnf)
    | (show CallK _ _ 30 _ _ _ _; refine CallK.rv (c_stale now life xe) (by repeat' (first | exact trivial | exact .head _ | apply List.Mem.tail | apply And.intro)) (Nx.go ?_))
    | (show SemC _ _ _ (.loop (.seq (.region 2 _ _) _)) _ _ _ _ _; refine SemC.loopC (c := (.seq (.region 2 _ _) _)) (fun i : Nat => [(8, .int .i64 i)]) (fun i => i ≤ n) (fun i => n - i) 0 ?_; (conv => whnf); refine LoopQ.mk ?_ ⟨(by repeat (first | exact trivial | refine ⟨rfl, ?_⟩ | refine ⟨congrArg (Value.int _) (by omega), ?_⟩)), Imp.refl⟩ (fun i hi => ?_))
    | (show Exists _; refine Exists.intro (i + 1) ⟨?_, ?_, rfl, ⟨(by repeat (first | exact trivial | refine ⟨rfl, ?_⟩ | refine ⟨congrArg (Value.int _) (by omega), ?_⟩)), Imp.refl⟩⟩)
    | (show Post _ _ _ _ _; exact Rs.post () rfl Imp.refl trivial)
    | (refine Idx.nat ?_; conv => whnf)
    | (refine Idx.is _ rfl ?_; conv => whnf)
    | (show HasP _ _ _ _ _ _; refine HasP.mk' (by repeat (first | exact .head _ | apply List.Mem.tail)) (Nx.go ?_))
    | (show RdE _ _ _ _ _ _ _; refine RdE.s (by repeat (first | exact .head _ | apply List.Mem.tail)) (by omega) (fun xe hxe => Nx.go ?_))
    | (show RdB _ _ _; refine RdB.mk' (by repeat (first | exact .head _ | apply List.Mem.tail)) (Nx.go ?_))
    | (refine AR.i64 (by omega) ?_; conv => whnf)
    | (refine AR.u64 (by omega) ?_; conv => whnf)
    | (refine AR.u8 (by omega) ?_; conv => whnf)
    | (refine Ob.mk (by omega) ?_; conv => whnf)
    | (refine BR.mk (fun h => ?_) (fun h => ?_) <;> (first | rw [Bool.not_eq_true'] at h | rw [Bool.not_eq_false'] at h | skip) <;> (try rw [h]) <;> (first | replace h := of_decide_eq_true h | replace h := of_decide_eq_false h | replace h := eq_of_beq h | replace h := bne_iff_ne.1 h | replace h := beq_eq_false_iff_ne.1 h | replace h := bne_eq_false_iff_eq.1 h | skip) <;> conv => whnf)
  all_goals first | omega | exact absurd ((h0 _ _ hxe).symm.trans h) (by decide)

theorem c_delN (now life : UInt64) (b : Nat) (p : Option Addr) (n c : Nat) (l : List SerV) (hn : l.length = n) (hc : n ≤ 1000)(h0 : ∀ (i : Nat) (x : SerV), l[i]? = some x → stV2 now life x = false) : Ct Tryz.prog 28 [(b, .vec encSer 12 46 p n c l)] [.vec 0 p n c, .fn 30 [.agg [.int .u64 now.toNat, .int .u64 life.toNat]] []] [] (Rs (fun y : RowD => .vec 0 y.p y.n y.c) (fun y => [(b, .vec encSer 12 46 y.p y.n y.c y.l)]) (fun _ => []) (fun y => y.n = y.l.length ∧ y.l = keepL (stV2 now life) l)) := by
  refine Ct.post (Ct.of Tryz.func28 rfl (n := 42) rfl rfl rfl ?_)
  conv => whnf
  repeat' first
    | (show BR (decide ((-1 : Int) = -1)) _ _; refine BR.yesK rfl ?_; conv => whnf)
    | (refine Ob.mk ⟨rfl, rfl, rfl, rfl, by omega⟩ ?_; conv => whnf)
    | (refine Ob.mk ⟨rfl, rfl, by omega⟩ ?_; conv => whnf)
    | (intro xe hxe; conv => whnf)
    | (refine Ob.mk rfl ?_; conv => whnf)
    | (refine Nx.mk ?_; conv => whnf)
    | (refine BR.yes ?_; conv => whnf)
    | (refine BR.no ?_; conv => whnf)
    | (intro bk; conv => whnf)
    | (show CallK _ _ 30 _ _ _ _; refine CallK.rv (c_stale now life xe) (by repeat' (first | exact trivial | exact .head _ | apply List.Mem.tail | apply And.intro)) (Nx.go ?_))
    | (show CallK _ _ 44 _ _ _ _; refine CallK.lendS [0] (c_idxON now life b p n c l hn hc h0) ⟨rfl, trivial⟩ rfl rfl rfl (by repeat' (first | exact trivial | exact .head _ | apply List.Mem.tail | apply And.intro)) (fun _ _ => ⟨rfl, Nx.go ?_⟩))
    | (show Post _ _ _ _ _; exact Rs.post ⟨p, n, c, l⟩ rfl Imp.refl ⟨hn.symm, (keepL_all h0).symm⟩)
    | (refine Idx.nat ?_; conv => whnf)
    | (refine Idx.is _ rfl ?_; conv => whnf)
    | (show HasP _ _ _ _ _ _; refine HasP.mk' (by repeat (first | exact .head _ | apply List.Mem.tail)) (Nx.go ?_))
    | (show RdE _ _ _ _ _ _ _; refine RdE.s (by repeat (first | exact .head _ | apply List.Mem.tail)) (by omega) (fun xe hxe => Nx.go ?_))
    | (show RdB _ _ _; refine RdB.mk' (by repeat (first | exact .head _ | apply List.Mem.tail)) (Nx.go ?_))
    | (show SlW _ _ _ _ _ _ _ _ _; refine SlW.s (by repeat (first | exact .head _ | apply List.Mem.tail)) (by omega) (fun ys hys hcs => Nx.go ?_))
    | (refine AR.i64 (by omega) ?_; conv => whnf)
    | (refine AR.u64 (by omega) ?_; conv => whnf)
    | (refine AR.u8 (by omega) ?_; conv => whnf)
    | (refine Ob.mk (by omega) ?_; conv => whnf)
    | (refine BR.mk (fun h => ?_) (fun h => ?_) <;> (first | rw [Bool.not_eq_true'] at h | rw [Bool.not_eq_false'] at h | skip) <;> (try rw [h]) <;> (first | replace h := of_decide_eq_true h | replace h := of_decide_eq_false h | replace h := eq_of_beq h | replace h := bne_iff_ne.1 h | replace h := beq_eq_false_iff_ne.1 h | replace h := bne_eq_false_iff_eq.1 h | skip) <;> conv => whnf)

theorem c_idxOK (now life : UInt64) (b : Nat) (p : Option Addr) (n c : Nat) (l : List SerV) (hn : l.length = n) (hc : n ≤ 1000)(k : Nat) (h0 : Fst (stV2 now life) l k) : Ct Tryz.prog 44 [(b, .vec encSer 12 46 p n c l)] [.vec 0 p n c, .fn 30 [.agg [.int .u64 now.toNat, .int .u64 life.toNat]] []] [] (Rs (fun _ : Unit => .int .i64 k) (fun _ => [(b, .vec encSer 12 46 p n c l)]) (fun _ => []) (fun _ => True)) := by
  have hk := h0.lt
  refine Ct.post (Ct.of Tryz.func44 rfl (n := 19) rfl rfl rfl ?_)
  conv => whnf
  repeat' first
    | (refine Ob.mk ⟨rfl, rfl, rfl, rfl, by omega⟩ ?_; conv => whnf)
    | (refine Ob.mk ⟨rfl, rfl, by omega⟩ ?_; conv => whnf)
    | (intro xe hxe; conv => whnf)
    | (refine Ob.mk rfl ?_; conv => whnf)
    | (refine Nx.mk ?_; conv => whnf)
    | (refine BR.yes ?_; conv => whnf)
    | (refine BR.no ?_; conv => whnf)
    | (show CallK _ _ 30 _ _ _ _; refine CallK.rv (c_stale now life xe) (by repeat' (first | exact trivial | exact .head _ | apply List.Mem.tail | apply And.intro)) (Nx.go ?_))
    | (show SemC _ _ _ (.loop (.seq (.region 2 _ _) _)) _ _ _ _ _; refine SemC.loopC (c := (.seq (.region 2 _ _) _)) (fun i : Nat => [(8, .int .i64 i)]) (fun i => i ≤ k) (fun i => n - i) 0 ?_; (conv => whnf); refine LoopQ.mk ?_ ⟨(by repeat (first | exact trivial | refine ⟨rfl, ?_⟩ | refine ⟨congrArg (Value.int _) (by omega), ?_⟩)), Imp.refl⟩ (fun i hi => ?_))
    | (show Exists _; refine Exists.intro (i + 1) ⟨?_, ?_, rfl, ⟨(by repeat (first | exact trivial | refine ⟨rfl, ?_⟩ | refine ⟨congrArg (Value.int _) (by omega), ?_⟩)), Imp.refl⟩⟩)
    | (show Post _ _ _ _ _; refine Rs.post () ?_ Imp.refl trivial)
    | (refine Idx.nat ?_; conv => whnf)
    | (refine Idx.is _ rfl ?_; conv => whnf)
    | (show HasP _ _ _ _ _ _; refine HasP.mk' (by repeat (first | exact .head _ | apply List.Mem.tail)) (Nx.go ?_))
    | (show RdE _ _ _ _ _ _ _; refine RdE.s (by repeat (first | exact .head _ | apply List.Mem.tail)) (by omega) (fun xe hxe => Nx.go ?_))
    | (show RdB _ _ _; refine RdB.mk' (by repeat (first | exact .head _ | apply List.Mem.tail)) (Nx.go ?_))
    | (refine AR.i64 (by omega) ?_; conv => whnf)
    | (refine AR.u64 (by omega) ?_; conv => whnf)
    | (refine AR.u8 (by omega) ?_; conv => whnf)
    | (refine Ob.mk (by omega) ?_; conv => whnf)
    | (refine BR.mk (fun h => ?_) (fun h => ?_) <;> (first | rw [Bool.not_eq_true'] at h | rw [Bool.not_eq_false'] at h | skip) <;> (try rw [h]) <;> (first | replace h := of_decide_eq_true h | replace h := of_decide_eq_false h | replace h := eq_of_beq h | replace h := bne_iff_ne.1 h | replace h := beq_eq_false_iff_ne.1 h | replace h := bne_eq_false_iff_eq.1 h | skip) <;> conv => whnf)
  · omega
  · have h9 : ¬ i < k := fun h8 => absurd ((h0.no _ _ h8 hxe).symm.trans h) (by decide)
    obtain rfl : i = k := by omega
    rfl
  all_goals (try (have h9 : i ≠ k := by rintro rfl; exact absurd (h.symm.trans (h0.yes _ hxe)) (by decide)))
  all_goals omega

theorem c_delK (now life : UInt64) (b : Nat) (p : Option Addr) (n c : Nat) (l : List SerV) (hn : l.length = n) (hc : n ≤ 1000)(k : Nat) (h0 : Fst (stV2 now life) l k) : Ct Tryz.prog 28 [(b, .vec encSer 12 46 p n c l)] [.vec 0 p n c, .fn 30 [.agg [.int .u64 now.toNat, .int .u64 life.toNat]] []] [] (Rs (fun y : RowD => .vec 0 y.p y.n y.c) (fun y => [(b, .vec encSer 12 46 y.p y.n y.c y.l)]) (fun _ => []) (fun y => y.n = y.l.length ∧ y.l = keepL (stV2 now life) l)) := by
  have hk := h0.lt
  refine Ct.post (Ct.of Tryz.func28 rfl (n := 42) rfl rfl rfl ?_)
  conv => whnf
  repeat' first
    | (show BR (decide ((k : Int) = -1)) _ _; refine BR.noK (decide_eq_false (by omega)) ?_; conv => whnf)
    | (show SemO _ _ (.slice _ _ (some _) none none) _ _ _ _ _; refine SemO.sliceLow ?_; (conv => whnf); refine Idx.is i rfl ?_; (conv => whnf); refine Ob.mk ⟨rfl, rfl, rfl, rfl, by have hij := hi.ij; have hjn := hi.jn; omega⟩ ?_; conv => whnf)
    | (show SemO _ _ (.slice _ _ none (some _) none) _ _ _ _ _; refine SemO.sliceVec ?_; (conv => whnf); refine Idx.is i rfl ?_; (conv => whnf); refine Ob.mk ⟨rfl, rfl, rfl, rfl, by have hij := hi.ij; have hjn := hi.jn; omega⟩ ?_; conv => whnf)
    | (show SemO _ _ (.call ⟨.builtin .clear, _, _⟩) _ _ _ _ _; refine SemO.clear ?_; (conv => whnf); refine ⟨⟨0, b, i, SerV, encSer, 12, p, n, c, m, ser0, rfl, rfl, rfl, by have hij := hi.ij; have hjn := hi.jn; omega, rfl, rfl, rfl, okSer _, ?_⟩⟩; conv => whnf)
    | (intro x0 hx0; show StQ _ _ 0 _ _; refine StQ.mk' xe rfl ?_; conv => whnf)
    | (show SemO _ _ (.store _ _ _) _ _ _ _ _; refine SemO.storeVel ?_; (conv => whnf); refine Ob.mk ⟨rfl, rfl, rfl, rfl, rfl, Nat.le_of_ble_eq_true rfl, by have hij := hi.ij; have hjn := hi.jn; omega⟩ ?_)
    | (refine Ob.mk ⟨rfl, rfl, rfl, rfl, by have hij := hi.ij; have hjn := hi.jn; omega⟩ ?_; conv => whnf)
    | (refine Ob.mk ⟨rfl, rfl, by have hij := hi.ij; have hjn := hi.jn; omega⟩ ?_; conv => whnf)
    | (refine AR.i64 (by have hij := hi.ij; have hjn := hi.jn; omega) ?_; conv => whnf)
    | (refine Ob.mk ⟨rfl, rfl, rfl, rfl, by omega⟩ ?_; conv => whnf)
    | (refine Ob.mk ⟨rfl, rfl, by omega⟩ ?_; conv => whnf)
    | (intro xe hxe; conv => whnf)
    | (refine Ob.mk rfl ?_; conv => whnf)
    | (refine Nx.mk ?_; conv => whnf)
    | (refine BR.yes ?_; conv => whnf)
    | (refine BR.no ?_; conv => whnf)
    | (intro bk; conv => whnf)
    | (show CallK _ _ 30 _ _ _ _; refine CallK.rv (c_stale now life xe) (by repeat' (first | exact trivial | exact .head _ | apply List.Mem.tail | apply And.intro)) (Nx.go ?_))
    | (show CallK _ _ 44 _ _ _ _; refine CallK.lendS [0] (c_idxOK now life b p n c l hn hc k h0) ⟨rfl, trivial⟩ rfl rfl rfl (by repeat' (first | exact trivial | exact .head _ | apply List.Mem.tail | apply And.intro)) (fun _ _ => ⟨rfl, Nx.go ?_⟩))
    | (show SemC _ _ _ (.loop (.seq (.seq (.region 5 _ _) _) _)) _ _ _ _ _; refine SemC.loopB (c := (.seq (.seq (.region 5 _ _) _) _)) (fun d : Del => [(5, .int .i64 d.i), (6, .int .i64 d.j)]) (fun d => [(b, .vec encSer 12 46 p n c d.m)]) (fun d => Mid (stV2 now life) l d.m d.i d.j) (fun d => n - d.j) ⟨k, k + 1, l⟩ ?_; (conv => whnf); refine LoopQ.mk ?_ ⟨(by repeat (first | exact trivial | refine ⟨rfl, ?_⟩ | refine ⟨congrArg (Value.int _) (by omega), ?_⟩)), Imp.refl⟩ (fun d hi => ?_); rotate_left; obtain ⟨i, j, m⟩ := d; dsimp only at hi ⊢; rotate_left)
    | (show Exists _; refine Exists.intro (⟨i + 1, j + 1, m.set i xe⟩) ⟨?_, ?_, rfl, ⟨(by repeat (first | exact trivial | refine ⟨rfl, ?_⟩ | refine ⟨congrArg (Value.int _) (by omega), ?_⟩)), Imp.to 1 rfl (by repeat' (first | exact trivial | exact .head _ | apply List.Mem.tail | apply And.intro))⟩⟩)
    | (show Exists _; refine Exists.intro (⟨i, j + 1, m⟩) ⟨?_, ?_, rfl, ⟨(by repeat (first | exact trivial | refine ⟨rfl, ?_⟩ | refine ⟨congrArg (Value.int _) (by omega), ?_⟩)), Imp.to 1 rfl (by repeat' (first | exact trivial | exact .head _ | apply List.Mem.tail | apply And.intro))⟩⟩)
    | (show Post _ _ _ _ _; refine Rs.post ⟨p, i, c, _⟩ rfl Imp.refl ?_)
    | (refine Idx.nat ?_; conv => whnf)
    | (refine Idx.is _ rfl ?_; conv => whnf)
    | (show HasP _ _ _ _ _ _; refine HasP.mk' (by repeat (first | exact .head _ | apply List.Mem.tail)) (Nx.go ?_))
    | (show RdE _ _ _ _ _ _ _; refine RdE.s (by repeat (first | exact .head _ | apply List.Mem.tail)) (by omega) (fun xe hxe => Nx.go ?_))
    | (show RdB _ _ _; refine RdB.mk' (by repeat (first | exact .head _ | apply List.Mem.tail)) (Nx.go ?_))
    | (show SlW _ _ _ _ _ _ _ _ _; refine SlW.s (by repeat (first | exact .head _ | apply List.Mem.tail)) (by omega) (fun ys hys hcs => Nx.go ?_))
    | (refine AR.i64 (by omega) ?_; conv => whnf)
    | (refine AR.u64 (by omega) ?_; conv => whnf)
    | (refine AR.u8 (by omega) ?_; conv => whnf)
    | (refine Ob.mk (by omega) ?_; conv => whnf)
    | (refine BR.mk (fun h => ?_) (fun h => ?_) <;> (first | rw [Bool.not_eq_true'] at h | rw [Bool.not_eq_false'] at h | skip) <;> (try rw [h]) <;> (first | replace h := of_decide_eq_true h | replace h := of_decide_eq_false h | replace h := eq_of_beq h | replace h := bne_iff_ne.1 h | replace h := beq_eq_false_iff_ne.1 h | replace h := bne_eq_false_iff_eq.1 h | skip) <;> conv => whnf)
  · exact Mid.start h0
  · exact Mid.yes hi hxe h
  · have hjn := hi.jn; show n - (j + 1) < n - j; omega
  · exact Mid.no hi hxe h
  · have hjn := hi.jn; show n - (j + 1) < n - j; omega
  · have hij := hi.ij
    have hjn := hi.jn
    have hml := hi.len
    exact ⟨by show i = List.length _; rw [List.length_take, List.length_append, List.length_take]; omega, hi.end' (by omega)⟩
end Go.Proofs.YtfgnkadbpjiaiaaGreatDoor

/- clock: K13 -/
namespace Go.Proofs.YtfgnkadbpjiaiaaGreatDoor
open Go.Proofs.YtfgnkadbpjiaiaaGreatDoor.W
set_option maxRecDepth 100000
set_option linter.unusedVariables false
theorem c_del (now life : UInt64) (b : Nat) (p : Option Addr) (n c : Nat) (l : List SerV) (hn : l.length = n) (hc : n ≤ 1000) : Ct Tryz.prog 28 [(b, .vec encSer 12 46 p n c l)] [.vec 0 p n c, .fn 30 [.agg [.int .u64 now.toNat, .int .u64 life.toNat]] []] [] (Rs (fun y : RowD => .vec 0 y.p y.n y.c) (fun y => [(b, .vec encSer 12 46 y.p y.n y.c y.l)]) (fun _ => []) (fun y => y.n = y.l.length ∧ y.l = keepL (stV2 now life) l)) := by
  rcases fst_or (stV2 now life) l with h | ⟨k, h⟩
  · exact c_delN now life b p n c l hn hc h
  · exact c_delK now life b p n c l hn hc k h
/-- those that are not stale -/
def keepS (now life : UInt64) (t : List Ser) : List Ser := t.filter fun s => !staleS now life s
theorem keepS_of {now life : UInt64} {l m : List SerV} {t : List Ser} (h : m = keepL (stV2 now life) l) (hl : l.map SerV.ser = t) : m.map SerV.ser = keepS now life t := by
  rw [h, ← hl, keepS, List.filter_map]; rfl
theorem keep_in {g : SerV → Bool} {l m : List SerV} (h : m = keepL g l) : ∀ y ∈ m, y ∈ l := fun y hy => by rw [h] at hy; exact (List.mem_filter.1 hy).1
theorem tab_len {l : List SerV} {t : List Ser} (h : l.map SerV.ser = t) (ht : tabR t = true) : l.length ≤ 20 := by
  have := tabR_len ht
  rwa [← h, List.length_map] at this

theorem c_expT (z : Sli SerV) (now life : UInt64) (hs : smallT (Tab z)) (ht : tabR (Tab z) = true) : Ct Tryz.prog 11 [] [z.sv, .int .u64 now.toNat, .int .u64 life.toNat] [z.f encSer 12, allF z.l] (Rs (fun y : Sli SerV => .tup [y.sv, .int .i64 (z.l.length - y.l.length : Int), .int .i64 0]) (fun _ => []) (fun y => [y.f encSer 12, allF y.l]) (fun y => Tab y = keepS now life (Tab z) ∧ y.l.length ≤ z.l.length)) := by
  have h20 : z.l.length ≤ 20 := tab_len rfl ht
  refine Ct.post (Ct.of Tryz.func11 rfl (n := 32) rfl rfl rfl ?_)
  conv => whnf
  repeat' first
    | (show SemO _ _ (.buildSlice _ _ #[(0, .tmp 12)]) _ _ _ _ _; refine SemO.lit ?_; (conv => whnf); show BsV _ _ _ _ _; refine BsV.s [(0 : Int)] (by repeat (first | exact .nil | refine .cons (by first | rfl | exact encB_of (by omega) | exact encU_U (by omega)) ?_)) (fun xo _ => okI xo) (fun ys hys => Nx.go ?_))
    | (show AR .i64 ((z.l.length : Int) - (r.n : Int)) _; have h7 : r.l.length ≤ y.l.length := (by rw [hr.2]; exact List.length_filter_le _ _); have h6 : y.l.length = z.l.length := (by have h5 := congrArg List.length hy.2; rwa [Tab, List.length_map, List.length_map] at h5); have h4 := hr.1; refine AR.i64 (by omega) ?_; conv => whnf)
    | (refine Ob.mk rfl ?_; conv => whnf)
    | (refine Nx.mk ?_; conv => whnf)
    | (refine BR.yes ?_; conv => whnf)
    | (refine BR.no ?_; conv => whnf)
    | (intro bk; conv => whnf)
    | (show CallK _ _ 26 _ _ _ _; refine CallK.rv (c_cchkT z hs ht) (by repeat' (first | exact trivial | exact .head _ | apply List.Mem.tail | apply And.intro)) (Nx.go ?_))
    | (show CallK _ _ 25 _ _ _ _; refine CallK.rv (c_firstT ys hys) (by repeat' (first | exact trivial | exact .head _ | apply List.Mem.tail | apply And.intro)) (Nx.go ?_))
    | (show CallK _ _ 29 _ _ _ _; refine CallK.rs (c_own z hs ht) (by repeat' (first | exact trivial | exact .head _ | apply List.Mem.tail | apply And.intro)) (fun y hy => ⟨rfl, Nx.go ?_⟩))
    | (show CallK _ _ 28 _ _ _ _; refine CallK.lendS [0] (c_del now life y.b y.p y.n y.c y.l hy.1.symm (by have h8 := tab_len hy.2 ht; omega)) ⟨rfl, trivial⟩ rfl rfl rfl (by repeat' (first | exact trivial | exact .head _ | apply List.Mem.tail | apply And.intro)) (fun r hr => ⟨rfl, Nx.go ?_⟩))
    | (show Post _ _ _ _ _; refine Rs.post ⟨r.l, r.p, r.c⟩ (by rw [hr.1]; rfl) ((Imp.pubS 0 rfl hr.1.symm).trans ((Imp.allX (l := y.l) (by repeat (first | exact .head _ | apply List.Mem.tail)) (keep_in hr.2)).trans (Imp.fs (by repeat' (first | exact trivial | exact .head _ | apply List.Mem.tail | apply And.intro))))) ⟨keepS_of hr.2 hy.2, by have h5 := congrArg List.length hy.2; rw [Tab, List.length_map, List.length_map] at h5; show r.l.length ≤ _; omega⟩)
    | (refine AR.i64 (by omega) ?_; conv => whnf)
    | (refine AR.u64 (by omega) ?_; conv => whnf)
    | (refine AR.u8 (by omega) ?_; conv => whnf)
    | (refine Ob.mk (by omega) ?_; conv => whnf)
    | (refine BR.mk (fun h => ?_) (fun h => ?_) <;> (first | rw [Bool.not_eq_true'] at h | rw [Bool.not_eq_false'] at h | skip) <;> (try rw [h]) <;> (first | replace h := of_decide_eq_true h | replace h := of_decide_eq_false h | replace h := eq_of_beq h | replace h := bne_iff_ne.1 h | replace h := beq_eq_false_iff_ne.1 h | replace h := bne_eq_false_iff_eq.1 h | skip) <;> conv => whnf)

theorem c_expN (z : Sli SerV) (now life : UInt64) (hs : smallT (Tab z)) (ht : tabR (Tab z) = false) : Ct Tryz.prog 11 [] [z.sv, .int .u64 now.toNat, .int .u64 life.toNat] [z.f encSer 12, allF z.l] (Rv (.tup [.raw (.slice none 0 0), .int .i64 0, .int .i64 120])) := by
  refine Ct.of Tryz.func11 rfl (n := 32) rfl rfl rfl ?_
  conv => whnf
  repeat' first
    | (show SemO _ _ (.buildSlice _ _ #[(0, .tmp 12)]) _ _ _ _ _; refine SemO.lit ?_; (conv => whnf); show BsV _ _ _ _ _; refine BsV.s [(120 : Int)] (by repeat (first | exact .nil | refine .cons (by first | rfl | exact encB_of (by omega) | exact encU_U (by omega)) ?_)) (fun xo _ => okI xo) (fun ys hys => Nx.go ?_))
    | (refine Ob.mk rfl ?_; conv => whnf)
    | (refine Nx.mk ?_; conv => whnf)
    | (refine BR.yes ?_; conv => whnf)
    | (refine BR.no ?_; conv => whnf)
    | (intro bk; conv => whnf)
    | (show CallK _ _ 26 _ _ _ _; refine CallK.rv (c_cchkN z hs ht) (by repeat' (first | exact trivial | exact .head _ | apply List.Mem.tail | apply And.intro)) (Nx.go ?_))
    | (show CallK _ _ 25 _ _ _ _; refine CallK.rv (c_firstN ys 120 (by decide) hys) (by repeat' (first | exact trivial | exact .head _ | apply List.Mem.tail | apply And.intro)) (Nx.go ?_))
    | (show CallK _ _ 27 _ _ _ _; refine CallK.rv (c_ctold 120) (by repeat' (first | exact trivial | exact .head _ | apply List.Mem.tail | apply And.intro)) (Nx.go ?_))
    | (refine AR.i64 (by omega) ?_; conv => whnf)
    | (refine AR.u64 (by omega) ?_; conv => whnf)
    | (refine AR.u8 (by omega) ?_; conv => whnf)
    | (refine Ob.mk (by omega) ?_; conv => whnf)
    | (refine BR.mk (fun h => ?_) (fun h => ?_) <;> (first | rw [Bool.not_eq_true'] at h | rw [Bool.not_eq_false'] at h | skip) <;> (try rw [h]) <;> (first | replace h := of_decide_eq_true h | replace h := of_decide_eq_false h | replace h := eq_of_beq h | replace h := bne_iff_ne.1 h | replace h := beq_eq_false_iff_ne.1 h | replace h := bne_eq_false_iff_eq.1 h | skip) <;> conv => whnf)
  all_goals rfl

theorem c_shown14  : Ct Tryz.prog 9 [] [] [] (Rv (.bool true)) := by
  refine Ct.of Tryz.func9 rfl (n := 34) rfl rfl rfl ?_
  conv => whnf
  repeat' first
    | (refine Ob.mk rfl ?_; conv => whnf)
    | (refine Nx.mk ?_; conv => whnf)
    | (refine BR.yes ?_; conv => whnf)
    | (refine BR.no ?_; conv => whnf)
    | (intro bk; conv => whnf)
    | (show CallK _ _ 17 _ _ _ _; refine CallK.rv (c_advT 5 7 (by decide)) (by repeat' (first | exact trivial | exact .head _ | apply List.Mem.tail | apply And.intro)) (Nx.go ?_))
    | (show CallK _ _ 17 _ _ _ _; refine CallK.rv (c_advF 7 5 (by decide)) (by repeat' (first | exact trivial | exact .head _ | apply List.Mem.tail | apply And.intro)) (Nx.go ?_))
    | (show CallK _ _ 14 _ _ _ _; refine CallK.rv (c_Stale 15 10 ⟨nilL, sk0, 5⟩) (by repeat' (first | exact trivial | exact .head _ | apply List.Mem.tail | apply And.intro)) (Nx.go ?_))
    | (show CallK _ _ 14 _ _ _ _; refine CallK.rv (c_Stale 16 10 ⟨nilL, sk0, 5⟩) (by repeat' (first | exact trivial | exact .head _ | apply List.Mem.tail | apply And.intro)) (Nx.go ?_))
    | (show RdB _ _ _; refine RdB.mk' (by repeat (first | exact .head _ | apply List.Mem.tail)) (Nx.go ?_))
    | (refine AR.i64 (by omega) ?_; conv => whnf)
    | (refine AR.u64 (by omega) ?_; conv => whnf)
    | (refine AR.u8 (by omega) ?_; conv => whnf)
    | (refine Ob.mk (by omega) ?_; conv => whnf)
    | (refine BR.mk (fun h => ?_) (fun h => ?_) <;> (first | rw [Bool.not_eq_true'] at h | rw [Bool.not_eq_false'] at h | skip) <;> (try rw [h]) <;> (first | replace h := of_decide_eq_true h | replace h := of_decide_eq_false h | replace h := eq_of_beq h | replace h := bne_iff_ne.1 h | replace h := beq_eq_false_iff_ne.1 h | replace h := bne_eq_false_iff_eq.1 h | skip) <;> conv => whnf)
  all_goals first | rfl | exact absurd h (by decide)
end Go.Proofs.YtfgnkadbpjiaiaaGreatDoor

/- clock: K15 -/
namespace Go.Proofs.YtfgnkadbpjiaiaaGreatDoor
open Go.Proofs.YtfgnkadbpjiaiaaGreatDoor.W
set_option maxRecDepth 100000
set_option linter.unusedVariables false
open Go.ChangeShapes Go.WideShapes Go.RowKit
theorem Tryz.own : ownKnob Tryz.prog.godebug = none := by kernel_rfl
theorem Tryz.kids : Kids Tryz.prog (· < Tryz.prog.types.size) := kids_rows (by kernel_rfl) (by kernel_rfl)
theorem Tryz.full : ∀ t e, t < Tryz.prog.types.size → Tryz.prog.underlying t = some (.slice e) → 0 < Tryz.prog.cellsOf e := slices_full_of Tryz.prog (by kernel_rfl)

theorem list10 {α : Type} {l : List α} (h : l.length = 10) : ∃ c0 c1 c2 c3 c4 c5 c6 c7 c8 c9, l = [c0, c1, c2, c3, c4, c5, c6, c7, c8, c9] := by
  match l, h with
  | [c0, c1, c2, c3, c4, c5, c6, c7, c8, c9], _ => exact ⟨c0, c1, c2, c3, c4, c5, c6, c7, c8, c9, rfl⟩
theorem xs_at {α : Type} {xs : List α} {n i : Nat} (h : xs.length = n) (hi : i < n) : ∃ y, xs[i]? = some y := ⟨_, List.getElem?_eq_getElem (by omega)⟩
set_option maxHeartbeats 4000000 in
/-- a sketch that came in -/
theorem open_sk {H : Type} {enc : TypeId × Value → H} {w : World} {sp : Nat → Bool} {hd : Bool} {fuel : Nat} {cs : List Value} {y : DataW H × List MemPlace} (h : DataW.trod enc Tryz.prog w 0 sp hd fuel 44 cs = some y) :
    ∃ x : SkV, cs = dens x.cs ∧ Hold x.fs (Old w) w := by
  have c1 : Tryz.prog.cellsOf 3 = 1 := by kernel_rfl
  have cS : Tryz.prog.cellsOf 9 = 1 := by kernel_rfl
  have cU : Tryz.prog.cellsOf 33 = 1 := by kernel_rfl
  have cB : Tryz.prog.cellsOf 40 = 1 := by kernel_rfl
  have cE : Tryz.prog.cellsOf 35 = 1 := by kernel_rfl
  have cH : Tryz.prog.cellsOf 37 = 2 := by kernel_rfl
  have cC : Tryz.prog.cellsOf 39 = 3 := by kernel_rfl
  have cG : Tryz.prog.cellsOf 42 = 2 := by kernel_rfl
  have c64 : Tryz.prog.cellsOf 23 = 1 := by kernel_rfl
  obtain ⟨xs, n, _, _, hl, hlen, hf⟩ := DataW.trod_struct Tryz.underlying44 h
  obtain ⟨a0, a1, a2, a3, a4, a5, a6, a7, a8, a9, rfl⟩ := list10 (hl.trans (by kernel_rfl))
  obtain ⟨y0, e0⟩ := xs_at (i := 0) hlen (by decide)
  obtain ⟨y1, e1⟩ := xs_at (i := 1) hlen (by decide)
  obtain ⟨y2, e2⟩ := xs_at (i := 2) hlen (by decide)
  obtain ⟨y3, e3⟩ := xs_at (i := 3) hlen (by decide)
  obtain ⟨y4, e4⟩ := xs_at (i := 4) hlen (by decide)
  obtain ⟨y5, e5⟩ := xs_at (i := 5) hlen (by decide)
  have f0 : DataW.trod enc Tryz.prog w 0 sp hd n 3 ((([a0, a1, a2, a3, a4, a5, a6, a7, a8, a9] : List Value).drop 0).take (Tryz.prog.cellsOf 3)) = some y0 := (hf 0 _ rfl).trans e0
  have f1 : DataW.trod enc Tryz.prog w 0 sp hd n 3 ((([a0, a1, a2, a3, a4, a5, a6, a7, a8, a9] : List Value).drop 1).take (Tryz.prog.cellsOf 3)) = some y1 := (hf 1 _ rfl).trans e1
  have f2 : DataW.trod enc Tryz.prog w 0 sp hd n 35 ((([a0, a1, a2, a3, a4, a5, a6, a7, a8, a9] : List Value).drop 2).take (Tryz.prog.cellsOf 35)) = some y2 := (hf 2 _ rfl).trans e2
  have f3 : DataW.trod enc Tryz.prog w 0 sp hd n 37 ((([a0, a1, a2, a3, a4, a5, a6, a7, a8, a9] : List Value).drop 3).take (Tryz.prog.cellsOf 37)) = some y3 := (hf 3 _ rfl).trans e3
  have f4 : DataW.trod enc Tryz.prog w 0 sp hd n 39 ((([a0, a1, a2, a3, a4, a5, a6, a7, a8, a9] : List Value).drop 5).take (Tryz.prog.cellsOf 39)) = some y4 := (hf 4 _ rfl).trans e4
  have f5 : DataW.trod enc Tryz.prog w 0 sp hd n 42 ((([a0, a1, a2, a3, a4, a5, a6, a7, a8, a9] : List Value).drop 8).take (Tryz.prog.cellsOf 42)) = some y5 := (hf 5 _ rfl).trans e5
  clear hf e0 e1 e2 e3 e4 e5
  simp only [c1, cE, cH, cC, cG, List.drop_zero, List.drop_succ_cons, List.take_succ_cons, List.take_zero] at f0 f1 f2 f3 f4 f5
  obtain ⟨k, g0⟩ := open_i Tryz.underlying3 f0
  obtain ⟨l, g1⟩ := open_i Tryz.underlying3 f1
  obtain ⟨z2, n2, _, _, t2⟩ := trod_struct1 Tryz.underlying35 f2
  obtain ⟨z30, z31, n3, _, _, t30, t31⟩ := trod_struct2 Tryz.underlying37 f3
  obtain ⟨zs, n4, _, _, _, hlen4, hf4⟩ := DataW.trod_struct Tryz.underlying39 f4
  obtain ⟨z50, z51, n5, _, _, t50, t51⟩ := trod_struct2 Tryz.underlying42 f5
  obtain ⟨z40, e40⟩ := xs_at (i := 0) hlen4 (by decide)
  obtain ⟨z41, e41⟩ := xs_at (i := 1) hlen4 (by decide)
  obtain ⟨z42, e42⟩ := xs_at (i := 2) hlen4 (by decide)
  have t40 : DataW.trod enc Tryz.prog w 0 sp hd n4 3 ((([a5, a6, a7] : List Value).drop 0).take (Tryz.prog.cellsOf 3)) = some z40 := (hf4 0 _ rfl).trans e40
  have t41 : DataW.trod enc Tryz.prog w 0 sp hd n4 3 ((([a5, a6, a7] : List Value).drop 1).take (Tryz.prog.cellsOf 3)) = some z41 := (hf4 1 _ rfl).trans e41
  have t42 : DataW.trod enc Tryz.prog w 0 sp hd n4 33 ((([a5, a6, a7] : List Value).drop 2).take (Tryz.prog.cellsOf 33)) = some z42 := (hf4 2 _ rfl).trans e42
  clear hf4 e40 e41 e42
  simp only [c1, cS, cU, cB, List.drop_zero, List.drop_succ_cons, List.take_succ_cons, List.take_zero] at t2 t30 t31 t40 t41 t42 t50 t51
  obtain ⟨e, g2, s2⟩ := open_u64s Tryz.underlying33 Tryz.underlying23 c64 t2
  obtain ⟨bi, g3⟩ := open_i Tryz.underlying3 t30
  obtain ⟨rg, g4, s4⟩ := open_str Tryz.underlying9 t31
  obtain ⟨ro, g5⟩ := open_i Tryz.underlying3 t40
  obtain ⟨co, g6⟩ := open_i Tryz.underlying3 t41
  obtain ⟨c, g7, s7⟩ := open_u64s Tryz.underlying33 Tryz.underlying23 c64 t42
  obtain ⟨fi, g8⟩ := open_i Tryz.underlying3 t50
  obtain ⟨g, g9, s9⟩ := open_bins Tryz.underlying40 Tryz.underlying124 (by kernel_rfl) rfl rfl c1 c64 Tryz.underlying3 Tryz.underlying23 t51
  simp only [List.cons.injEq, and_true] at g0 g1 g2 g3 g4 g5 g6 g7 g8 g9
  subst g0 g1 g2 g3 g4 g5 g6 g7 g8 g9
  exact ⟨⟨k, l, e, bi, rg, ro, co, c, fi, g⟩, rfl, Hold.cons s2 (Hold.cons s7 (Hold.cons s9 (Hold.cons s4 Hold.nil)))⟩
/-- an empty sketch -/
abbrev sk0V : Value := .agg #[.int .i64 0, .int .i64 0, .slice none 0 0, .int .i64 0, .string ⟨#[]⟩, .int .i64 0, .int .i64 0, .slice none 0 0, .int .i64 0, .slice none 0 0]

theorem list12 {α : Type} {l : List α} (h : l.length = 12) : ∃ c0 m c11, l = c0 :: (m ++ [c11]) ∧ m.length = 10 := by
  match l, h with
  | [c0, c1, c2, c3, c4, c5, c6, c7, c8, c9, c10, c11], _ => exact ⟨c0, [c1, c2, c3, c4, c5, c6, c7, c8, c9, c10], c11, rfl, rfl⟩
theorem open_lab {H : Type} {enc : TypeId × Value → H} {w : World} {sp : Nat → Bool} {hd : Bool} {fuel : Nat} {cs : List Value} {y : DataW H × List MemPlace} (h : DataW.trod enc Tryz.prog w 0 sp hd fuel 75 cs = some y) :
    ∃ x : Lab, cs = dens (encLab x) ∧ okE encLab 2 x ∧ True := by
  have cS : Tryz.prog.cellsOf 9 = 1 := by kernel_rfl
  obtain ⟨xs, n, _, _, hl, hlen, hf⟩ := DataW.trod_struct Tryz.underlying75 h
  obtain ⟨a0, a1, rfl⟩ : ∃ a0 a1, cs = [a0, a1] := by
    match cs, hl.trans (by kernel_rfl : Tryz.prog.cellsOf 75 = 2) with
    | [a0, a1], _ => exact ⟨a0, a1, rfl⟩
  obtain ⟨y0, e0⟩ := xs_at (i := 0) hlen (by decide)
  obtain ⟨y1, e1⟩ := xs_at (i := 1) hlen (by decide)
  have f0 : DataW.trod enc Tryz.prog w 0 sp hd n 9 ((([a0, a1] : List Value).drop 0).take (Tryz.prog.cellsOf 9)) = some y0 := (hf 0 _ rfl).trans e0
  have f1 : DataW.trod enc Tryz.prog w 0 sp hd n 9 ((([a0, a1] : List Value).drop 1).take (Tryz.prog.cellsOf 9)) = some y1 := (hf 1 _ rfl).trans e1
  simp only [cS, List.drop_zero, List.drop_succ_cons, List.take_succ_cons, List.take_zero] at f0 f1
  obtain ⟨s0, g0, _⟩ := open_str Tryz.underlying9 f0
  obtain ⟨s1, g1, _⟩ := open_str Tryz.underlying9 f1
  simp only [List.cons.injEq, and_true] at g0 g1
  subst g0 g1
  exact ⟨⟨s0, s1⟩, rfl, ⟨rfl, rfl⟩, trivial⟩
theorem open_ser {H : Type} {enc : TypeId × Value → H} {w : World} {sp : Nat → Bool} {hd : Bool} {fuel : Nat} {cs : List Value} {y : DataW H × List MemPlace} (h : DataW.trod enc Tryz.prog w 0 sp hd fuel 46 cs = some y) :
    ∃ x : SerV, cs = dens (encSer x) ∧ okE encSer 12 x ∧ Hold x.fs (Old w) w := by
  have cL : Tryz.prog.cellsOf 32 = 1 := by kernel_rfl
  have cK : Tryz.prog.cellsOf 44 = 10 := by kernel_rfl
  have cU : Tryz.prog.cellsOf 23 = 1 := by kernel_rfl
  obtain ⟨xs, n, _, _, hl, hlen, hf⟩ := DataW.trod_struct Tryz.underlying46 h
  obtain ⟨a0, m, a11, rfl, hm⟩ := list12 (hl.trans (by kernel_rfl : Tryz.prog.cellsOf 46 = 12))
  obtain ⟨y0, e0⟩ := xs_at (i := 0) hlen (by decide)
  obtain ⟨y1, e1⟩ := xs_at (i := 1) hlen (by decide)
  obtain ⟨y2, e2⟩ := xs_at (i := 2) hlen (by decide)
  have f0 : DataW.trod enc Tryz.prog w 0 sp hd n 32 (((a0 :: (m ++ [a11]) : List Value).drop 0).take (Tryz.prog.cellsOf 32)) = some y0 := (hf 0 _ rfl).trans e0
  have f1 : DataW.trod enc Tryz.prog w 0 sp hd n 44 (((a0 :: (m ++ [a11]) : List Value).drop 1).take (Tryz.prog.cellsOf 44)) = some y1 := (hf 1 _ rfl).trans e1
  have f2 : DataW.trod enc Tryz.prog w 0 sp hd n 23 (((a0 :: (m ++ [a11]) : List Value).drop 11).take (Tryz.prog.cellsOf 23)) = some y2 := (hf 2 _ rfl).trans e2
  rw [cL, List.drop_zero, List.take_succ_cons, List.take_zero] at f0
  rw [cK, List.drop_succ_cons, List.drop_zero, ← hm, List.take_left] at f1
  rw [cU, show (11 : Nat) = 10 + 1 from rfl, List.drop_succ_cons, ← hm, List.drop_left] at f2
  obtain ⟨L, g0, s0, _⟩ := open_els encLab 2 (fun _ => True) (by decide) Tryz.underlying32 (by kernel_rfl) (fun _ _ _ h => open_lab h) f0
  obtain ⟨S, rfl, s1⟩ := open_sk f1
  obtain ⟨n2, g2, _, w2⟩ := DataW.trod_int Tryz.underlying23 f2
  simp only [List.cons.injEq, and_true] at g0
  simp only [List.take_succ_cons, List.take_zero, List.cons.injEq, and_true] at g2
  subst g0 g2
  refine ⟨⟨L, S, U n2⟩, ?_, okSer _, Hold.cons s0 s1⟩
  show _ = L.sv.den :: (dens S.cs ++ [Value.int .u64 ((U n2).toNat : Int)])
  rw [U_is (wf_u64 w2)]
/-- series that came in -/
theorem open_sers {H : Type} {enc : TypeId × Value → H} {w : World} {sp : Nat → Bool} {hd : Bool} {fuel : Nat} {cs : List Value} {y : DataW H × List MemPlace} (h : DataW.trod enc Tryz.prog w 0 sp hd fuel 22 cs = some y) :
    ∃ x : Sli SerV, cs = [x.sv.den] ∧ Hold [x.f encSer 12, allF x.l] (Old w) w := by
  obtain ⟨x, h1, h2, h3⟩ := open_els encSer 12 (fun z => Hold z.fs (Old w) w) (by decide) Tryz.underlying22 (by kernel_rfl) (fun _ _ _ h => open_ser h) h
  exact ⟨x, h1, Hold.cons h2 (Hold.cons (fun z hz => h3 z hz) Hold.nil)⟩
/-- a world in which the type's handle lies so -/
noncomputable def laidWorld (os : Os) : World :=
  let w0 := World.holding Tryz.prog os ⟨#[], #[], []⟩
  { w0 with heap := w0.heap.modify 0 fun
      | .cells _ t frozen => .cells #[.iface 204 (.agg #[typeHandle Tryz.prog 60])] t frozen
      | o => o }
abbrev laidL : List (String × DataW Unit) := [("errors.errorType", Rows.laid_errors_errorType)]
theorem laidWorld_met (os : Os) (args : Array Value) : laidMetH Tryz.prog laidL ((laidWorld os).forCall (fun _ _ => 0) ⟨#[], args, []⟩).memory :=
  laidMetH_of_parts (laidMet_nil _ _) (by kernel_rfl)
end Go.Proofs.YtfgnkadbpjiaiaaGreatDoor

/- clock: K14 -/
namespace Go.Proofs.YtfgnkadbpjiaiaaGreatDoor
open Go.Proofs.YtfgnkadbpjiaiaaGreatDoor.W
set_option maxRecDepth 100000
set_option linter.unusedVariables false
def minU (a b : UInt64) : UInt64 := if a.toNat ≤ b.toNat then a else b
def maxU (a b : UInt64) : UInt64 := if a.toNat ≤ b.toNat then b else a
theorem minU_eq (a b : UInt64) : (min a.toNat b.toNat : Int) = (minU a b).toNat := by unfold minU; split <;> omega
theorem maxU_eq (a b : UInt64) : (max a.toNat b.toNat : Int) = (maxU a b).toNat := by unfold maxU; split <;> omega
theorem c_expTI (z : Sli SerV) {m l : Int} (now life : UInt64) (hm : m = now.toNat) (hl : l = life.toNat) (hs : smallT (Tab z)) (ht : tabR (Tab z) = true) :
    Ct Tryz.prog 11 [] [z.sv, .int .u64 m, .int .u64 l] [z.f encSer 12, allF z.l] (Rs (fun y : Sli SerV => .tup [y.sv, .int .i64 (z.l.length - y.l.length : Int), .int .i64 0]) (fun _ => []) (fun y => [y.f encSer 12, allF y.l]) (fun y => Tab y = keepS now life (Tab z) ∧ y.l.length ≤ z.l.length)) := by
  subst hm hl; exact c_expT z now life hs ht
theorem c_expNI (z : Sli SerV) {m l : Int} (now life : UInt64) (hm : m = now.toNat) (hl : l = life.toNat) (hs : smallT (Tab z)) (ht : tabR (Tab z) = false) :
    Ct Tryz.prog 11 [] [z.sv, .int .u64 m, .int .u64 l] [z.f encSer 12, allF z.l] (Rv (.tup [.raw (.slice none 0 0), .int .i64 0, .int .i64 120])) := by
  subst hm hl; exact c_expN z now life hs ht
/-- stale is stale later, and of a shorter life -/
theorem stale_mono {a b c d : UInt64} {s : Ser} (h1 : a.toNat ≤ b.toNat) (h2 : d.toNat ≤ c.toNat) (h : staleS a c s = true) : staleS b d s = true := by
  simp only [staleS, Bool.and_eq_true, decide_eq_true_eq] at h ⊢
  omega
theorem minU_le (a b : UInt64) : (minU a b).toNat ≤ (maxU a b).toNat := by unfold minU maxU; split <;> omega
theorem keep_len {a b c d : UInt64} {t : List Ser} (h1 : a.toNat ≤ b.toNat) (h2 : d.toNat ≤ c.toNat) : (keepS b d t).length ≤ (keepS a c t).length := by
  rw [keepS, keepS, ← List.countP_eq_length_filter, ← List.countP_eq_length_filter]
  refine List.countP_mono_left fun s _ h => ?_
  rcases h3 : staleS a c s
  · rfl
  · rw [stale_mono h1 h2 h3] at h; exact h
theorem len_of {y : Sli SerV} {t : List Ser} (h : Tab y = t) : y.l.length = t.length := by rw [← h, Tab, List.length_map]

theorem c_Later (x : Sli SerV) (now next life other : UInt64) : Ct Tryz.prog 3 [] [x.sv, .int .u64 now.toNat, .int .u64 next.toNat, .int .u64 life.toNat, .int .u64 other.toNat] [x.f encSer 12, allF x.l] (Rv (.bool true)) := by
  refine Ct.of Tryz.func3 rfl (n := 60) rfl rfl rfl ?_
  conv => whnf
  repeat' first
    | (refine Ob.mk rfl ?_; conv => whnf)
    | (refine Nx.mk ?_; conv => whnf)
    | (refine BR.yes ?_; conv => whnf)
    | (refine BR.no ?_; conv => whnf)
    | (show CallK _ _ _ _ _ _ _; refine CallK.rv c_shown14 (by repeat' (first | exact trivial | exact .head _ | apply List.Mem.tail | apply And.intro)) (Nx.go ?_))
    | (show CallK _ _ 10 _ _ _ _; refine CallK.rf (c_few12 x) (by repeat' (first | exact trivial | exact .head _ | apply List.Mem.tail | apply And.intro)) (fun z hz => Nx.go ?_))
    | (show CallK _ _ 11 _ _ _ _; refine CallK.rf (c_expTI z (minU now next) (maxU life other) (minU_eq ..) (maxU_eq ..) (by rw [hz]; exact few12_small _) ht) (by repeat' (first | exact trivial | exact .head _ | apply List.Mem.tail | apply And.intro)) (fun y hy => Nx.go ?_))
    | (show CallK _ _ 11 _ _ _ _; refine CallK.rf (c_expTI z (maxU now next) (minU life other) (maxU_eq ..) (minU_eq ..) (by rw [hz]; exact few12_small _) ht) (by repeat' (first | exact trivial | exact .head _ | apply List.Mem.tail | apply And.intro)) (fun v hv => Nx.go ?_))
    | (show CallK _ _ 11 _ _ _ _; refine CallK.rv (c_expNI z (minU now next) (maxU life other) (minU_eq ..) (maxU_eq ..) (by rw [hz]; exact few12_small _) ht) (by repeat' (first | exact trivial | exact .head _ | apply List.Mem.tail | apply And.intro)) (Nx.go ?_))
    | (show CallK _ _ 11 _ _ _ _; refine CallK.rv (c_expNI z (maxU now next) (minU life other) (maxU_eq ..) (minU_eq ..) (by rw [hz]; exact few12_small _) ht) (by repeat' (first | exact trivial | exact .head _ | apply List.Mem.tail | apply And.intro)) (Nx.go ?_))
    | (show CallK _ _ 11 _ _ _ _; rcases ht : tabR (Tab z))
    | (refine AR.i64 (by omega) ?_; conv => whnf)
    | (refine AR.u64 (by omega) ?_; conv => whnf)
    | (refine AR.u8 (by omega) ?_; conv => whnf)
    | (refine Ob.mk (by omega) ?_; conv => whnf)
    | (refine BR.mk (fun h => ?_) (fun h => ?_) <;> (first | rw [Bool.not_eq_true'] at h | rw [Bool.not_eq_false'] at h | skip) <;> (try rw [h]) <;> (first | replace h := of_decide_eq_true h | replace h := of_decide_eq_false h | replace h := eq_of_beq h | replace h := bne_iff_ne.1 h | replace h := beq_eq_false_iff_ne.1 h | replace h := bne_eq_false_iff_eq.1 h | skip) <;> conv => whnf)
  · rfl
  · have h9 := keep_len (t := Tab z) (minU_le now next) (minU_le life other)
    have h1 := len_of hy.1
    have h2 := len_of hv.1
    exact congrArg SV.bool (decide_eq_true (by omega))
end Go.Proofs.YtfgnkadbpjiaiaaGreatDoor
