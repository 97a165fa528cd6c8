/- YtpdpajafaifcjaaGreatDoorTB: a part of the proof of the given statement CodeBackCardSaid; no condition beyond the statement. -/
import Derived.Test.YtpdpajafaifcjaaGreatDoorWB
import Derived.Test.YtpdpajafaifcjaaGreatDoorTA
set_option linter.unusedVariables false
/- build -/
namespace Go.Proofs.YtpdpajafaifcjaaGreatDoor
open Go.Proofs.YtpdpajafaifcjaaGreatDoor.W
set_option maxRecDepth 100000
set_option linter.unusedVariables false
theorem c_ccF (b : Nat) (v : SV) : Ct Tryz.prog 43 [(b, .cells [.raw (.pointer none), v] 77)] [.own 0 b 0] [] (Rs (fun _ : Unit => .tup []) (fun _ => [(b, .cells [.own 0 b 0, v] 77)]) (fun _ => []) (fun _ => True)) := by
  refine Ct.post (Ct.of Tryz.func43 rfl (n := 20) rfl rfl rfl ?_)
  conv => whnf
  repeat' first
    | (show CallK _ _ 56 _ _ _ _; refine CallK.ext (.own 0 b 0) (fun w => ⟨w, rfl, Kept.refl _ _⟩) ?_; conv => whnf)
    | (show SemO _ _ (.convert 74 _ _) _ _ _ _ _; refine SemO.toUns ?_; (conv => whnf); refine Ob.mk ⟨rfl, by decide, by simp⟩ ?_; conv => whnf)
    | (show SemO _ _ (.convert _ 74 _) _ _ _ _ _; refine SemO.ofUns ?_; (conv => whnf); refine Ob.mk ⟨rfl, by kernel_rfl⟩ ?_; conv => whnf)
    | (refine Ob.mk rfl ?_; conv => whnf)
    | (refine Nx.mk ?_; conv => whnf)
    | (refine BR.yes ?_; conv => whnf)
    | (refine BR.no ?_; conv => whnf)
    | (show Post _ _ _ _ _; exact Rs.post () rfl (Imp.to 1 rfl (by repeat' (first | exact trivial | exact .head _ | apply List.Mem.tail | apply And.intro))) trivial)
    | (show RdB _ _ _; refine RdB.mk' (by repeat (first | exact .head _ | apply List.Mem.tail)) (Nx.go ?_))
    | (refine AR.i64 (by omega) ?_; conv => whnf)
    | (refine AR.u64 (by omega) ?_; conv => whnf)
    | (refine AR.u8 (by omega) ?_; conv => whnf)
    | (refine Ob.mk (by omega) ?_; conv => whnf)
    | (refine BR.mk (fun h => ?_) (fun h => ?_) <;> (first | rw [Bool.not_eq_true'] at h | rw [Bool.not_eq_false'] at h | skip) <;> (try rw [h]) <;> (first | replace h := of_decide_eq_true h | replace h := of_decide_eq_false h | replace h := eq_of_beq h | replace h := bne_iff_ne.1 h | replace h := beq_eq_false_iff_ne.1 h | replace h := bne_eq_false_iff_eq.1 h | skip) <;> conv => whnf)

theorem c_ccU (b : Nat) (v : SV) : Ct Tryz.prog 43 [(b, .cells [.own 0 b 0, v] 77)] [.own 0 b 0] [] (Rs (fun _ : Unit => .tup []) (fun _ => [(b, .cells [.own 0 b 0, v] 77)]) (fun _ => []) (fun _ => True)) := by
  refine Ct.post (Ct.of Tryz.func43 rfl (n := 20) rfl rfl rfl ?_)
  conv => whnf
  repeat' first
    | (refine Ob.mk ⟨rfl, rfl⟩ ?_; conv => whnf)
    | (refine Ob.mk rfl ?_; conv => whnf)
    | (refine Nx.mk ?_; conv => whnf)
    | (refine BR.yes ?_; conv => whnf)
    | (refine BR.no ?_; conv => whnf)
    | (show Post _ _ _ _ _; exact Rs.post () rfl (Imp.to 1 rfl (by repeat' (first | exact trivial | exact .head _ | apply List.Mem.tail | apply And.intro))) trivial)
    | (show RdB _ _ _; refine RdB.mk' (by repeat (first | exact .head _ | apply List.Mem.tail)) (Nx.go ?_))
    | (refine AR.i64 (by omega) ?_; conv => whnf)
    | (refine AR.u64 (by omega) ?_; conv => whnf)
    | (refine AR.u8 (by omega) ?_; conv => whnf)
    | (refine Ob.mk (by omega) ?_; conv => whnf)
    | (refine BR.mk (fun h => ?_) (fun h => ?_) <;> (first | rw [Bool.not_eq_true'] at h | rw [Bool.not_eq_false'] at h | skip) <;> (try rw [h]) <;> (first | replace h := of_decide_eq_true h | replace h := of_decide_eq_false h | replace h := eq_of_beq h | replace h := bne_iff_ne.1 h | replace h := beq_eq_false_iff_ne.1 h | replace h := bne_eq_false_iff_eq.1 h | skip) <;> conv => whnf)

theorem c_WrF (b b2 n c : Nat) (p : Option Addr) (L s : List UInt8) (h : n + s.length ≤ 140737488355328) : Ct Tryz.prog 27 [(b, .cells [.raw (.pointer none), .vec 1 p n c] 77), (b2, .vec encB 1 5 p n c L)] [.own 0 b 0, .str s] [] (Rs (fun _ : Nat × Option Addr × Nat => .tup [.int .i64 s.length, .raw .nilIface]) (fun r => [(b, .cells [.own 0 b 0, .vec 1 r.2.1 (n + s.length) r.2.2] 77), (r.1, .vec encB 1 5 r.2.1 (n + s.length) r.2.2 (L ++ s))]) (fun _ => []) (fun _ => True)) := by
  refine Ct.post (Ct.of Tryz.func27 rfl (n := 19) rfl rfl rfl ?_)
  conv => whnf
  repeat' first
    | (show SemO _ _ (.call ⟨.builtin .append, _, _⟩) _ _ _ _ _; refine SemO.appendStr ?_; (conv => whnf); refine Ob.mk ⟨rfl, rfl, rfl, rfl, rfl⟩ ?_)
    | (show AppS _ _ _ _ _ _ _ _ _ _ _ _; refine AppS.mk' rfl (app_le (N := 140737488355328) (by omega) (of_decide_eq_true (by kernel_rfl))) (by omega) (fun b' p' c' hc' => Nx.go ?_))
    | (refine Ob.mk rfl ?_; conv => whnf)
    | (refine Nx.mk ?_; conv => whnf)
    | (intro bk; conv => whnf)
    | (show CallK _ _ 43 _ _ _ _; refine CallK.lendS [0] (c_ccF b _) ⟨rfl, trivial⟩ rfl rfl rfl (by repeat' (first | exact trivial | exact .head _ | apply List.Mem.tail | apply And.intro)) (fun _ _ => ⟨rfl, Nx.go ?_⟩))
    | (show Post _ _ _ _ _; exact Rs.post (b', p', c') rfl (Imp.to 2 rfl (by repeat' (first | exact trivial | exact .head _ | apply List.Mem.tail | apply And.intro))) trivial)
    | (show RdB _ _ _; refine RdB.mk' (by repeat (first | exact .head _ | apply List.Mem.tail)) (Nx.go ?_))
    | (refine Ob.mk (by omega) ?_; conv => whnf)

theorem c_WrU (b b2 n c : Nat) (p : Option Addr) (L s : List UInt8) (h : n + s.length ≤ 140737488355328) : Ct Tryz.prog 27 [(b, .cells [.own 0 b 0, .vec 1 p n c] 77), (b2, .vec encB 1 5 p n c L)] [.own 0 b 0, .str s] [] (Rs (fun _ : Nat × Option Addr × Nat => .tup [.int .i64 s.length, .raw .nilIface]) (fun r => [(b, .cells [.own 0 b 0, .vec 1 r.2.1 (n + s.length) r.2.2] 77), (r.1, .vec encB 1 5 r.2.1 (n + s.length) r.2.2 (L ++ s))]) (fun _ => []) (fun _ => True)) := by
  refine Ct.post (Ct.of Tryz.func27 rfl (n := 19) rfl rfl rfl ?_)
  conv => whnf
  repeat' first
    | (show SemO _ _ (.call ⟨.builtin .append, _, _⟩) _ _ _ _ _; refine SemO.appendStr ?_; (conv => whnf); refine Ob.mk ⟨rfl, rfl, rfl, rfl, rfl⟩ ?_)
    | (show AppS _ _ _ _ _ _ _ _ _ _ _ _; refine AppS.mk' rfl (app_le (N := 140737488355328) (by omega) (of_decide_eq_true (by kernel_rfl))) (by omega) (fun b' p' c' hc' => Nx.go ?_))
    | (refine Ob.mk rfl ?_; conv => whnf)
    | (refine Nx.mk ?_; conv => whnf)
    | (intro bk; conv => whnf)
    | (show CallK _ _ 43 _ _ _ _; refine CallK.lendS [0] (c_ccU b _) ⟨rfl, trivial⟩ rfl rfl rfl (by repeat' (first | exact trivial | exact .head _ | apply List.Mem.tail | apply And.intro)) (fun _ _ => ⟨rfl, Nx.go ?_⟩))
    | (show Post _ _ _ _ _; exact Rs.post (b', p', c') rfl (Imp.to 2 rfl (by repeat' (first | exact trivial | exact .head _ | apply List.Mem.tail | apply And.intro))) trivial)
    | (show RdB _ _ _; refine RdB.mk' (by repeat (first | exact .head _ | apply List.Mem.tail)) (Nx.go ?_))
    | (refine Ob.mk (by omega) ?_; conv => whnf)
end Go.Proofs.YtpdpajafaifcjaaGreatDoor

/- put -/
namespace Go.Proofs.YtpdpajafaifcjaaGreatDoor
open Go.Proofs.YtpdpajafaifcjaaGreatDoor.W
set_option maxRecDepth 100000
set_option linter.unusedVariables false
/-- the numbers' bytes, one behind the other -/
def putL (l : List UInt64) : List UInt8 := l.flatMap fun n => putN n.toNat
theorem putL_take {l : List UInt64} {i : Nat} {x : UInt64} (h : l[i]? = some x) : putL (l.take (i + 1)) = putL (l.take i) ++ putN x.toNat := by
  rw [List.take_add_one, h]; simp [putL]
theorem putN_ne (n : Nat) : putN n ≠ [] := by unfold putN; (repeat' split) <;> simp
theorem putL_le (l : List UInt64) (i : Nat) : (putL (l.take i)).length ≤ (putL l).length := by
  have e : putL l = putL (l.take i) ++ putL (l.drop i) := by rw [putL, putL, putL, ← List.flatMap_append, List.take_append_drop]
  rw [e, List.length_append]; omega
theorem putL_nil {l : List UInt64} {i : Nat} (hi : i ≤ l.length) (h : putL (l.take i) = []) : i = 0 := by
  cases l with
  | nil => simpa using hi
  | cons x l =>
    cases i with
    | zero => rfl
    | succ i => rw [List.take_succ_cons, putL, List.flatMap_cons] at h; exact absurd (List.append_eq_nil_iff.1 h).1 (putN_ne _)
theorem putImp {P : Program} {Φ : Facts} {l : List UInt64} {i : Nat} {x : UInt64} (h : l[i]? = some x) {bk b2 c : Nat} {p : Option Addr} {t u : TypeId} :
    Imp P [(bk, .cells [.own 0 bk 0, .vec 1 p ((putL (l.take i)).length + (putN x.toNat).length) c] t), (b2, .vec encB 1 u p ((putL (l.take i)).length + (putN x.toNat).length) c (putL (l.take i) ++ putN x.toNat))] Φ
      [(bk, .cells [.own 0 bk 0, .vec 1 p (putL (l.take (i + 1))).length c] t), (b2, .vec encB 1 u p (putL (l.take (i + 1))).length c (putL (l.take (i + 1))))] Φ := by rw [putL_take h, List.length_append]; exact Imp.refl
structure PutB where
  i : Nat
  b2 : Nat
  p : Option Addr
  c : Nat
  x : SV
theorem c_Wr (b b2 c : Nat) (x : SV) (hx : x = .raw (.pointer none) ∨ x = .own 0 b 0) (p : Option Addr) (L s : List UInt8) (h : L.length + s.length ≤ 140737488355328) : Ct Tryz.prog 27 [(b, .cells [x, .vec 1 p L.length c] 77), (b2, .vec encB 1 5 p L.length c L)] [.own 0 b 0, .str s] [] (Rs (fun _ : Nat × Option Addr × Nat => .tup [.int .i64 s.length, .raw .nilIface]) (fun r => [(b, .cells [.own 0 b 0, .vec 1 r.2.1 (L.length + s.length) r.2.2] 77), (r.1, .vec encB 1 5 r.2.1 (L.length + s.length) r.2.2 (L ++ s))]) (fun _ => []) (fun _ => True)) := by
  rcases hx with rfl | rfl
  · exact c_WrF b b2 L.length c p L s h
  · exact c_WrU b b2 L.length c p L s h

theorem c_StrV (b b2 n c : Nat) (x : SV) (p : Option Addr) (L : List UInt8) (h : n ≠ 0) : Ct Tryz.prog 29 [(b, .cells [x, .vec 1 p n c] 77), (b2, .vec encB 1 5 p n c L)] [.own 0 b 0] [] (Rs (fun _ : Unit => .str L) (fun _ => [(b, .hole), (b2, .hole)]) (fun _ => []) (fun _ => True)) := by
  refine Ct.post (Ct.of Tryz.func29 rfl (n := 14) rfl rfl rfl ?_)
  conv => whnf
  repeat' first
    | (show SemO _ _ (.call ⟨.builtin .unsafeSliceData, _, _⟩) _ _ _ _ _; refine SemO.usDataV ?_; (conv => whnf); refine Ob.mk ⟨rfl, rfl, rfl, h⟩ ?_; conv => whnf)
    | (show SemO _ _ (.call ⟨.builtin .unsafeString, _, _⟩) _ _ _ _ _; refine SemO.usStrV ?_; (conv => whnf); refine Ob.mk ⟨rfl, rfl, rfl, h, rfl, rfl, rfl⟩ ?_; refine B2S.mk' ?_; conv => whnf)
    | (refine Ob.mk rfl ?_; conv => whnf)
    | (refine Nx.mk ?_; conv => whnf)
    | (show Post _ _ _ _ _; exact Rs.post () rfl ((Imp.pubCells 0 rfl).trans (Imp.to 2 rfl (by repeat' (first | exact trivial | exact .head _ | apply List.Mem.tail | apply And.intro)))) trivial)
    | (refine SemC.draw 1 [] [.t 0, .t 1, .t 2, .t 3, .t 5, .t 6, .t 7, .t 8, .t 9, .s 4, .l 10, .t 11] (by kernel_rfl) (by kernel_rfl) ?_; conv => whnf)
    | (show RdB _ _ _; refine RdB.mk' (by repeat (first | exact .head _ | apply List.Mem.tail)) (Nx.go ?_))
    | (refine Ob.mk (by omega) ?_; conv => whnf)

theorem c_StrN (b b2 c : Nat) (x : SV) : Ct Tryz.prog 29 [(b, .cells [x, .vec 1 none 0 c] 77), (b2, .vec encB 1 5 none 0 c [])] [.own 0 b 0] [] (Rs (fun _ : Unit => .str []) (fun _ => [(b, .hole), (b2, .hole)]) (fun _ => []) (fun _ => True)) := by
  refine Ct.post (Ct.of Tryz.func29 rfl (n := 14) rfl rfl rfl ?_)
  conv => whnf
  repeat' first
    | (show SemO _ _ (.call ⟨.builtin .unsafeSliceData, _, _⟩) _ _ _ _ _; refine SemO.usDataN ?_; conv => whnf)
    | (show SemO _ _ (.call ⟨.builtin .unsafeString, _, _⟩) _ _ _ _ _; refine SemO.usStrN ?_; (conv => whnf); refine Ob.mk rfl ?_; conv => whnf)
    | (refine Ob.mk rfl ?_; conv => whnf)
    | (refine Nx.mk ?_; conv => whnf)
    | (show Post _ _ _ _ _; exact Rs.post () rfl (((Imp.pubCells 0 rfl).trans (Imp.pubVec 1 rfl)).trans (Imp.to 2 rfl (by repeat' (first | exact trivial | exact .head _ | apply List.Mem.tail | apply And.intro)))) trivial)
    | (refine SemC.draw 1 [] [.t 0, .t 1, .t 2, .t 3, .t 5, .t 6, .t 7, .t 8, .t 9, .s 4, .l 10, .t 11] (by kernel_rfl) (by kernel_rfl) ?_; conv => whnf)
    | (show RdB _ _ _; refine RdB.mk' (by repeat (first | exact .head _ | apply List.Mem.tail)) (Nx.go ?_))
    | (refine Ob.mk (by omega) ?_; conv => whnf)

theorem c_Str (b b2 c : Nat) (x : SV) (p : Option Addr) (L : List UInt8) (h : L = [] → p = none) : Ct Tryz.prog 29 [(b, .cells [x, .vec 1 p L.length c] 77), (b2, .vec encB 1 5 p L.length c L)] [.own 0 b 0] [] (Rs (fun _ : Unit => .str L) (fun _ => [(b, .hole), (b2, .hole)]) (fun _ => []) (fun _ => True)) := by
  cases L with
  | nil => obtain rfl := h rfl; exact c_StrN b b2 c x
  | cons y L => exact c_StrV b b2 _ c x p _ (by simp)

theorem c_put (x : Sli UInt64) (h9 : (putL x.l).length ≤ 140737488355328) : Ct Tryz.prog 19 [] [x.sv] [x.f encU 1] (Rv (.str (putL x.l))) := by
  refine Ct.len (enc := encU) (L := x.l) (List.Mem.head _) fun hl => ?_
  refine Ct.of Tryz.func19 rfl (n := 17) rfl rfl rfl ?_
  conv => whnf
  repeat' first
    | (refine Ob.mk rfl ?_; conv => whnf)
    | (refine Nx.mk ?_; conv => whnf)
    | (refine BR.yes ?_; conv => whnf)
    | (refine BR.no ?_; conv => whnf)
    | (intro bk; conv => whnf)
    | (show CallK _ _ 28 _ _ _ _; refine CallK.rv (c_Put xe) (by repeat' (first | exact trivial | exact .head _ | apply List.Mem.tail | apply And.intro)) (Nx.go ?_))
    | (show CallK _ _ 27 _ _ _ _; refine CallK.lendS [0, 1] (c_Wr bk j.b2 j.c j.x hi.2.1 j.p _ (putN xe.toNat) ?_) ⟨rfl, rfl, trivial⟩ rfl rfl rfl (by repeat' (first | exact trivial | exact .head _ | apply List.Mem.tail | apply And.intro)) (fun r _ => ⟨rfl, Nx.go ?_⟩))
    | (show CallK _ _ 29 _ _ _ _; refine CallK.lendS [0, 1] (c_Str bk j.b2 j.c j.x j.p _ ?_) ⟨rfl, rfl, trivial⟩ rfl rfl rfl (by repeat' (first | exact trivial | exact .head _ | apply List.Mem.tail | apply And.intro)) (fun _ _ => ⟨rfl, Nx.go ?_⟩))
    | (show SemC _ _ _ (.loop (.seq (.region 3 _ _) _)) _ _ _ _ _; refine SemC.loopB (c := (.seq (.region 3 _ _) _)) (fun j : PutB => [(8, .int .i64 j.i)]) (fun j => [(bk, .cells [j.x, .vec 1 j.p (putL (x.l.take j.i)).length j.c] 77), (j.b2, .vec encB 1 5 j.p (putL (x.l.take j.i)).length j.c (putL (x.l.take j.i)))]) (fun j => j.i ≤ x.l.length ∧ (j.x = .raw (.pointer none) ∨ j.x = .own 0 bk 0) ∧ (j.i = 0 → j.p = none)) (fun j => x.l.length - j.i) ⟨0, 0, none, 0, .raw (.pointer none)⟩ ?_; (conv => whnf); refine LoopQ.mk ?_ ⟨(by repeat (first | exact trivial | refine ⟨rfl, ?_⟩ | refine ⟨congrArg (Value.int _) (by omega), ?_⟩)), ((Imp.nilVec encB 1 5).trans (Imp.recell 0 rfl rfl))⟩ (fun j hi => ?_))
    | (show Exists _; refine Exists.intro (⟨j.i + 1, r.1, r.2.1, r.2.2, .own 0 bk 0⟩) ⟨?_, ?_, rfl, ⟨(by repeat (first | exact trivial | refine ⟨rfl, ?_⟩ | refine ⟨congrArg (Value.int _) (by omega), ?_⟩)), putImp hxe⟩⟩)
    | (refine Idx.nat ?_; conv => whnf)
    | (refine Idx.is _ rfl ?_; conv => whnf)
    | (show HasP _ _ _ _ _ _; refine HasP.mk' (by repeat (first | exact .head _ | apply List.Mem.tail)) (Nx.go ?_))
    | (show RdE _ _ _ _ _ _ _; refine RdE.s (by repeat (first | exact .head _ | apply List.Mem.tail)) (by omega) (fun xe hxe => Nx.go ?_))
    | (show RdB _ _ _; refine RdB.mk' (by repeat (first | exact .head _ | apply List.Mem.tail)) (Nx.go ?_))
    | (refine AR.i64 (by omega) ?_; conv => whnf)
    | (refine AR.u64 (by omega) ?_; conv => whnf)
    | (refine AR.u8 (by omega) ?_; conv => whnf)
    | (refine Ob.mk (by omega) ?_; conv => whnf)
    | (refine BR.mk (fun h => ?_) (fun h => ?_) <;> (first | rw [Bool.not_eq_true'] at h | rw [Bool.not_eq_false'] at h | skip) <;> (try rw [h]) <;> (first | replace h := of_decide_eq_true h | replace h := of_decide_eq_false h | replace h := eq_of_beq h | replace h := bne_iff_ne.1 h | replace h := beq_eq_false_iff_ne.1 h | replace h := bne_eq_false_iff_eq.1 h | skip) <;> conv => whnf)
  · exact ⟨Nat.zero_le _, .inl rfl, fun _ => rfl⟩
  · have := putL_le x.l (j.i + 1); rw [putL_take hxe, List.length_append] at this; omega
  · exact ⟨by dsimp only; omega, .inr rfl, fun h => by cases h⟩
  · dsimp only; omega
  · exact hi.2.2 (putL_nil hi.1 bk)
  · rw [show j.i = x.l.length by omega, List.take_length]; rfl
end Go.Proofs.YtpdpajafaifcjaaGreatDoor

/- reader -/
namespace Go.Proofs.YtpdpajafaifcjaaGreatDoor
open Go.Proofs.YtpdpajafaifcjaaGreatDoor.W
set_option maxRecDepth 100000
set_option linter.unusedVariables false
/-- what comes of reading something -/
inductive RR (α : Type) where
  | more
  | bad
  | ok (a : α) (rest : List UInt8)
/-- a number that is no more than mx -/
def numR (mx : Int) (s : List UInt8) : RR UInt64 :=
  match getF s with
  | .more => .more
  | .bad => .bad
  | .ok n r => if (n : Int) > mx then .bad else .ok (UInt64.ofNat n) r
/-- what is handed back -/
def RR.sv {α : Type} (cm cn : Addr) (z : SV) (f : α → SV) : RR α → SV
  | .more => .tup [z, er cm]
  | .bad => .tup [z, er cn]
  | .ok a _ => .tup [f a, .raw .nilIface]
/-- the sketch that is being read -/
structure X10 where
  x1 : SV
  x2 : SV
  x3 : SV
  x4 : SV
  x5 : SV
  x6 : SV
  x7 : SV
  x8 : SV
  x9 : SV
  x10 : SV
theorem ofNat_toNat (n : Nat) (h : n ≤ 18446744073709551615) : (UInt64.ofNat n).toNat = n := by rw [UInt64.toNat_ofNat']; exact Nat.mod_eq_of_lt (by omega)
structure Errs where
  am : Addr
  an : Addr
  cm : Addr
  cn : Addr
  sm : TypeId
  sn : TypeId
  tm : TypeId
  tn : TypeId
  ne : am ≠ an
/-- the errors of field and of code -/
abbrev gAll (e : Errs) : Facts := [blkF 1 [er e.cm] e.tm, blkF 0 [er e.cn] e.tn, ptF e.cm, ptF e.cn, blkF 3 [er e.am] e.sm, blkF 2 [er e.an] e.sn, ptF e.am, ptF e.an]

theorem c_rnumM (b : Nat) (s : List UInt8) (X : X10) (mx : Int) (e : Errs) (hg : getF s = .more) (hs : s.length ≤ 9223372036854775800) (hx : mx ≤ 18446744073709551615) : Ct Tryz.prog 34 [(b, .cells [.str s, X.x1, X.x2, X.x3, X.x4, X.x5, X.x6, X.x7, X.x8, X.x9, X.x10] 59)] [.own 0 b 0, .int .u64 mx] (gAll e) (Rs (fun _ : List UInt8 => (numR mx s).sv e.cm e.cn (.int .u64 0) (fun n => .int .u64 n.toNat)) (fun r => [(b, .cells [.str r, X.x1, X.x2, X.x3, X.x4, X.x5, X.x6, X.x7, X.x8, X.x9, X.x10] 59)]) (fun _ => []) (fun q => ∀ a q', numR mx s = .ok a q' → q = q')) := by
  refine Ct.post (Ct.of Tryz.func34 rfl (n := 38) rfl rfl rfl ?_)
  conv => whnf
  repeat' first
    | (refine Ob.mk rfl ?_; conv => whnf)
    | (refine Nx.mk ?_; conv => whnf)
    | (refine BR.yes ?_; conv => whnf)
    | (refine BR.no ?_; conv => whnf)
    | (show CallK _ _ 47 _ _ _ _; refine CallK.rv (c_Get s e.am e.an e.sm e.sn .more hg e.ne hs) (by repeat' (first | exact trivial | exact .head _ | apply List.Mem.tail | apply And.intro)) (Nx.go ?_))
    | (show Post _ _ _ _ _; have hr : numR mx s = .more := (by simp only [numR, hg]); exact Rs.post s (by rw [hr]; rfl) (Imp.to 1 rfl (by repeat' (first | exact trivial | exact .head _ | apply List.Mem.tail | apply And.intro))) (fun a q0 h => by rw [hr] at h; cases h))
    | (refine SemC.draw 3 [] [.t 0, .t 1, .t 2] (by kernel_rfl) (by kernel_rfl) ?_; conv => whnf)
    | (refine SemC.draw 5 [] [.t 0, .t 1, .t 2] (by kernel_rfl) (by kernel_rfl) ?_; conv => whnf)
    | (show RdB _ _ _; refine RdB.mk' (by repeat (first | exact .head _ | apply List.Mem.tail)) (Nx.go ?_))
    | (refine AR.i64 (by omega) ?_; conv => whnf)
    | (refine AR.u64 (by omega) ?_; conv => whnf)
    | (refine AR.u8 (by omega) ?_; conv => whnf)
    | (refine Ob.mk (by omega) ?_; conv => whnf)
    | (refine BR.mk (fun h => ?_) (fun h => ?_) <;> (first | rw [Bool.not_eq_true'] at h | rw [Bool.not_eq_false'] at h | skip) <;> (try rw [h]) <;> (first | replace h := of_decide_eq_true h | replace h := of_decide_eq_false h | replace h := eq_of_beq h | replace h := bne_iff_ne.1 h | replace h := beq_eq_false_iff_ne.1 h | replace h := bne_eq_false_iff_eq.1 h | skip) <;> conv => whnf)

theorem c_rnumB (b : Nat) (s : List UInt8) (X : X10) (mx : Int) (e : Errs) (hg : getF s = .bad) (hs : s.length ≤ 9223372036854775800) (hx : mx ≤ 18446744073709551615) : Ct Tryz.prog 34 [(b, .cells [.str s, X.x1, X.x2, X.x3, X.x4, X.x5, X.x6, X.x7, X.x8, X.x9, X.x10] 59)] [.own 0 b 0, .int .u64 mx] (gAll e) (Rs (fun _ : List UInt8 => (numR mx s).sv e.cm e.cn (.int .u64 0) (fun n => .int .u64 n.toNat)) (fun r => [(b, .cells [.str r, X.x1, X.x2, X.x3, X.x4, X.x5, X.x6, X.x7, X.x8, X.x9, X.x10] 59)]) (fun _ => []) (fun q => ∀ a q', numR mx s = .ok a q' → q = q')) := by
  refine Ct.post (Ct.of Tryz.func34 rfl (n := 38) rfl rfl rfl ?_)
  conv => whnf
  repeat' first
    | (refine Ob.mk rfl ?_; conv => whnf)
    | (refine Nx.mk ?_; conv => whnf)
    | (refine BR.yes ?_; conv => whnf)
    | (refine BR.no ?_; conv => whnf)
    | (show CallK _ _ 47 _ _ _ _; refine CallK.rv (c_Get s e.am e.an e.sm e.sn .bad hg e.ne hs) (by repeat' (first | exact trivial | exact .head _ | apply List.Mem.tail | apply And.intro)) (Nx.go ?_))
    | (show Post _ _ _ _ _; have hr : numR mx s = .bad := (by simp only [numR, hg]); exact Rs.post s (by rw [hr]; rfl) (Imp.to 1 rfl (by repeat' (first | exact trivial | exact .head _ | apply List.Mem.tail | apply And.intro))) (fun a q0 h => by rw [hr] at h; cases h))
    | (refine SemC.draw 3 [] [.t 0, .t 1, .t 2] (by kernel_rfl) (by kernel_rfl) ?_; conv => whnf)
    | (refine SemC.draw 5 [] [.t 0, .t 1, .t 2] (by kernel_rfl) (by kernel_rfl) ?_; conv => whnf)
    | (show RdB _ _ _; refine RdB.mk' (by repeat (first | exact .head _ | apply List.Mem.tail)) (Nx.go ?_))
    | (refine AR.i64 (by omega) ?_; conv => whnf)
    | (refine AR.u64 (by omega) ?_; conv => whnf)
    | (refine AR.u8 (by omega) ?_; conv => whnf)
    | (refine Ob.mk (by omega) ?_; conv => whnf)
    | (refine BR.mk (fun h => ?_) (fun h => ?_) <;> (first | rw [Bool.not_eq_true'] at h | rw [Bool.not_eq_false'] at h | skip) <;> (try rw [h]) <;> (first | replace h := of_decide_eq_true h | replace h := of_decide_eq_false h | replace h := eq_of_beq h | replace h := bne_iff_ne.1 h | replace h := beq_eq_false_iff_ne.1 h | replace h := bne_eq_false_iff_eq.1 h | skip) <;> conv => whnf)

theorem c_rnumG (b : Nat) (s : List UInt8) (X : X10) (mx : Int) (e : Errs) (n : Nat) (q : List UInt8) (hg : getF s = (.ok n q)) (hm : (n : Int) > mx) (hs : s.length ≤ 9223372036854775800) (hx : mx ≤ 18446744073709551615) : Ct Tryz.prog 34 [(b, .cells [.str s, X.x1, X.x2, X.x3, X.x4, X.x5, X.x6, X.x7, X.x8, X.x9, X.x10] 59)] [.own 0 b 0, .int .u64 mx] (gAll e) (Rs (fun _ : List UInt8 => (numR mx s).sv e.cm e.cn (.int .u64 0) (fun n => .int .u64 n.toNat)) (fun r => [(b, .cells [.str r, X.x1, X.x2, X.x3, X.x4, X.x5, X.x6, X.x7, X.x8, X.x9, X.x10] 59)]) (fun _ => []) (fun q => ∀ a q', numR mx s = .ok a q' → q = q')) := by
  refine Ct.post (Ct.of Tryz.func34 rfl (n := 38) rfl rfl rfl ?_)
  conv => whnf
  repeat' first
    | (show BR (decide ((n : Int) > mx)) _ _; refine BR.yesK (decide_eq_true hm) ?_; conv => whnf)
    | (refine Ob.mk rfl ?_; conv => whnf)
    | (refine Nx.mk ?_; conv => whnf)
    | (refine BR.yes ?_; conv => whnf)
    | (refine BR.no ?_; conv => whnf)
    | (show CallK _ _ 47 _ _ _ _; refine CallK.rv (c_Get s e.am e.an e.sm e.sn (.ok n q) hg e.ne hs) (by repeat' (first | exact trivial | exact .head _ | apply List.Mem.tail | apply And.intro)) (Nx.go ?_))
    | (show Post _ _ _ _ _; have hr : numR mx s = .bad := (by simp only [numR, hg, if_pos hm]); exact Rs.post s (by rw [hr]; rfl) (Imp.to 1 rfl (by repeat' (first | exact trivial | exact .head _ | apply List.Mem.tail | apply And.intro))) (fun a q0 h => by rw [hr] at h; cases h))
    | (refine SemC.draw 3 [] [.t 0, .t 1, .t 2] (by kernel_rfl) (by kernel_rfl) ?_; conv => whnf)
    | (refine SemC.draw 5 [] [.t 0, .t 1, .t 2] (by kernel_rfl) (by kernel_rfl) ?_; conv => whnf)
    | (show RdB _ _ _; refine RdB.mk' (by repeat (first | exact .head _ | apply List.Mem.tail)) (Nx.go ?_))
    | (refine AR.i64 (by omega) ?_; conv => whnf)
    | (refine AR.u64 (by omega) ?_; conv => whnf)
    | (refine AR.u8 (by omega) ?_; conv => whnf)
    | (refine Ob.mk (by omega) ?_; conv => whnf)
    | (refine BR.mk (fun h => ?_) (fun h => ?_) <;> (first | rw [Bool.not_eq_true'] at h | rw [Bool.not_eq_false'] at h | skip) <;> (try rw [h]) <;> (first | replace h := of_decide_eq_true h | replace h := of_decide_eq_false h | replace h := eq_of_beq h | replace h := bne_iff_ne.1 h | replace h := beq_eq_false_iff_ne.1 h | replace h := bne_eq_false_iff_eq.1 h | skip) <;> conv => whnf)

theorem c_rnumO (b : Nat) (s : List UInt8) (X : X10) (mx : Int) (e : Errs) (n : Nat) (q : List UInt8) (hg : getF s = (.ok n q)) (hm : ¬ (n : Int) > mx) (hs : s.length ≤ 9223372036854775800) (hx : mx ≤ 18446744073709551615) : Ct Tryz.prog 34 [(b, .cells [.str s, X.x1, X.x2, X.x3, X.x4, X.x5, X.x6, X.x7, X.x8, X.x9, X.x10] 59)] [.own 0 b 0, .int .u64 mx] (gAll e) (Rs (fun _ : List UInt8 => (numR mx s).sv e.cm e.cn (.int .u64 0) (fun n => .int .u64 n.toNat)) (fun r => [(b, .cells [.str r, X.x1, X.x2, X.x3, X.x4, X.x5, X.x6, X.x7, X.x8, X.x9, X.x10] 59)]) (fun _ => []) (fun q => ∀ a q', numR mx s = .ok a q' → q = q')) := by
  refine Ct.post (Ct.of Tryz.func34 rfl (n := 38) rfl rfl rfl ?_)
  conv => whnf
  repeat' first
    | (show BR (decide ((n : Int) > mx)) _ _; refine BR.noK (decide_eq_false hm) ?_; conv => whnf)
    | (refine Ob.mk rfl ?_; conv => whnf)
    | (refine Nx.mk ?_; conv => whnf)
    | (refine BR.yes ?_; conv => whnf)
    | (refine BR.no ?_; conv => whnf)
    | (show CallK _ _ 47 _ _ _ _; refine CallK.rv (c_Get s e.am e.an e.sm e.sn (.ok n q) hg e.ne hs) (by repeat' (first | exact trivial | exact .head _ | apply List.Mem.tail | apply And.intro)) (Nx.go ?_))
    | (show Post _ _ _ _ _; have hr : numR mx s = .ok (UInt64.ofNat n) q := (by simp only [numR, hg, if_neg hm]); exact Rs.post q (by rw [hr]; simp only [RR.sv]; rw [ofNat_toNat n (by omega)]; rfl) (Imp.to 1 rfl (by repeat' (first | exact trivial | exact .head _ | apply List.Mem.tail | apply And.intro))) (fun a q0 h => by rw [hr] at h; cases h; rfl))
    | (refine SemC.draw 3 [] [.t 0, .t 1, .t 2] (by kernel_rfl) (by kernel_rfl) ?_; conv => whnf)
    | (refine SemC.draw 5 [] [.t 0, .t 1, .t 2] (by kernel_rfl) (by kernel_rfl) ?_; conv => whnf)
    | (show RdB _ _ _; refine RdB.mk' (by repeat (first | exact .head _ | apply List.Mem.tail)) (Nx.go ?_))
    | (refine AR.i64 (by omega) ?_; conv => whnf)
    | (refine AR.u64 (by omega) ?_; conv => whnf)
    | (refine AR.u8 (by omega) ?_; conv => whnf)
    | (refine Ob.mk (by omega) ?_; conv => whnf)
    | (refine BR.mk (fun h => ?_) (fun h => ?_) <;> (first | rw [Bool.not_eq_true'] at h | rw [Bool.not_eq_false'] at h | skip) <;> (try rw [h]) <;> (first | replace h := of_decide_eq_true h | replace h := of_decide_eq_false h | replace h := eq_of_beq h | replace h := bne_iff_ne.1 h | replace h := beq_eq_false_iff_ne.1 h | replace h := bne_eq_false_iff_eq.1 h | skip) <;> conv => whnf)

theorem c_rnum (b : Nat) (s : List UInt8) (X : X10) (mx : Int) (e : Errs) (hs : s.length ≤ 9223372036854775800) (hx : mx ≤ 18446744073709551615) : Ct Tryz.prog 34 [(b, .cells [.str s, X.x1, X.x2, X.x3, X.x4, X.x5, X.x6, X.x7, X.x8, X.x9, X.x10] 59)] [.own 0 b 0, .int .u64 mx] (gAll e) (Rs (fun _ : List UInt8 => (numR mx s).sv e.cm e.cn (.int .u64 0) (fun n => .int .u64 n.toNat)) (fun r => [(b, .cells [.str r, X.x1, X.x2, X.x3, X.x4, X.x5, X.x6, X.x7, X.x8, X.x9, X.x10] 59)]) (fun _ => []) (fun q => ∀ a q', numR mx s = .ok a q' → q = q')) := by
  cases hg : getF s with
  | more => exact c_rnumM b s X mx e hg hs hx
  | bad => exact c_rnumB b s X mx e hg hs hx
  | ok n q =>
    by_cases hm : (n : Int) > mx
    · exact c_rnumG b s X mx e n q hg hm hs hx
    · exact c_rnumO b s X mx e n q hg hm hs hx
end Go.Proofs.YtpdpajafaifcjaaGreatDoor

/- reader2 -/
namespace Go.Proofs.YtpdpajafaifcjaaGreatDoor
open Go.Proofs.YtpdpajafaifcjaaGreatDoor.W
set_option maxRecDepth 100000
set_option linter.unusedVariables false
theorem c_rnumX (b : Nat) (s : List UInt8) (X : X10) (mx : Int) (e : Errs) (g : RR UInt64) (hg : numR mx s = g) (hs : s.length ≤ 9223372036854775800) (hx : mx ≤ 18446744073709551615) : Ct Tryz.prog 34 [(b, .cells [.str s, X.x1, X.x2, X.x3, X.x4, X.x5, X.x6, X.x7, X.x8, X.x9, X.x10] 59)] [.own 0 b 0, .int .u64 mx] (gAll e) (Rs (fun _ : List UInt8 => g.sv e.cm e.cn (.int .u64 0) (fun n => .int .u64 n.toNat)) (fun r => [(b, .cells [.str r, X.x1, X.x2, X.x3, X.x4, X.x5, X.x6, X.x7, X.x8, X.x9, X.x10] 59)]) (fun _ => []) (fun q => ∀ a q', g = .ok a q' → q = q')) := by
  subst hg; exact c_rnum b s X mx e hs hx
/-- so many numbers -/
def listR : Nat → List UInt8 → RR (List UInt64)
  | 0, s => .ok [] s
  | k + 1, s => match numR 18446744073709551615 s with
    | .more => .more
    | .bad => .bad
    | .ok n r => match listR k r with
      | .more => .more
      | .bad => .bad
      | .ok l q => .ok (n :: l) q
def RR.pre (l : List UInt64) : RR (List UInt64) → RR (List UInt64)
  | .ok m q => .ok (l ++ m) q
  | .more => .more
  | .bad => .bad
theorem listR_more {k : Nat} {s : List UInt8} (h : numR 18446744073709551615 s = .more) : listR (k + 1) s = .more := by rw [listR, h]
theorem listR_bad {k : Nat} {s : List UInt8} (h : numR 18446744073709551615 s = .bad) : listR (k + 1) s = .bad := by rw [listR, h]
theorem listR_ok {k : Nat} {s : List UInt8} {n : UInt64} {r : List UInt8} (h : numR 18446744073709551615 s = .ok n r) (l : List UInt64) : (listR (k + 1) s).pre l = (listR k r).pre (l ++ [n]) := by
  rw [listR, h]; simp only []; cases listR k r <;> simp [RR.pre]
theorem getF_len {s : List UInt8} {n : Nat} {r : List UInt8} (h : getF s = .ok n r) : r.length + 1 ≤ s.length := by
  cases s with
  | nil => cases h
  | cons f t =>
    rw [getF] at h
    split at h
    · cases h
    · split at h
      · cases h
      · cases h; simp
theorem numR_len {mx : Int} {s : List UInt8} {n : UInt64} {r : List UInt8} (h : numR mx s = .ok n r) : r.length + 1 ≤ s.length := by
  unfold numR at h
  split at h
  · cases h
  · cases h
  · rename_i m q hg
    split at h
    · cases h
    · cases h; exact getF_len hg
theorem okE_encU (x : UInt64) : okE encU 1 x := ⟨rfl, rfl⟩
structure LstB where
  i : Nat
  r : List UInt8
  b2 : Nat
  p : Option Addr
  n : Nat
  c : Nat
  l : List UInt64

theorem c_rlist (b : Nat) (s : List UInt8) (X : X10) (k : Nat) (e : Errs) (hs : s.length ≤ 1000000) : Ct Tryz.prog 46 [(b, .cells [.str s, X.x1, X.x2, X.x3, X.x4, X.x5, X.x6, X.x7, X.x8, X.x9, X.x10] 59)] [.own 0 b 0, .int .i64 (k : Nat)] (gAll e) (Rs (fun x : List UInt8 × Sli UInt64 => (listR k s).sv e.cm e.cn (.raw (.slice none 0 0)) (fun _ => x.2.sv)) (fun x => [(b, .cells [.str x.1, X.x1, X.x2, X.x3, X.x4, X.x5, X.x6, X.x7, X.x8, X.x9, X.x10] 59)]) (fun x => [x.2.f encU 1]) (fun x => ∀ a q, listR k s = .ok a q → x.1 = q ∧ x.2.l = a)) := by
  refine Ct.post (Ct.of Tryz.func46 rfl (n := 26) rfl rfl rfl ?_)
  conv => whnf
  repeat' first
    | (show SemO _ _ (.buildSlice _ _ #[(0, .tmp 21)]) _ _ _ _ _; refine SemO.lit ?_; (conv => whnf); show BsV _ _ _ _ _; refine BsV.s [n] (by repeat (first | exact .nil | refine .cons (by first | rfl | exact encB_of (by omega) | exact encU_U (by omega)) ?_)) (fun xo _ => okE_encU xo) (fun ys hys => Nx.go ?_))
    | (show SemO _ _ (.call ⟨.builtin .append, _, _⟩) _ _ _ _ _; refine SemO.appendVec ?_; (conv => whnf); refine Ob.mk ⟨rfl, rfl, rfl, rfl, rfl⟩ ?_)
    | (show AppV _ _ _ _ _ _ _ _ _ _ _ _ _ _; refine ⟨rfl, _, .fact (by repeat (first | exact .head _ | apply List.Mem.tail)), app_le (N := 1048576) ?_ (of_decide_eq_true (by kernel_rfl)), ?_, fun bv pv cv hcv => Nx.go ?_⟩)
    | (refine Ob.mk rfl ?_; conv => whnf)
    | (refine Nx.mk ?_; conv => whnf)
    | (refine BR.yes ?_; conv => whnf)
    | (refine BR.no ?_; conv => whnf)
    | (intro bk; conv => whnf)
    | (show CallK _ _ 34 _ _ _ _; refine CallK.lendS [0] (c_rnumX b j.r X _ e .more hn (by omega) (by omega)) ⟨rfl, trivial⟩ rfl rfl rfl (by repeat' (first | exact trivial | exact .head _ | apply List.Mem.tail | apply And.intro)) (fun r0 hr0 => ⟨rfl, Nx.go ?_⟩))
    | (show CallK _ _ 34 _ _ _ _; refine CallK.lendS [0] (c_rnumX b j.r X _ e .bad hn (by omega) (by omega)) ⟨rfl, trivial⟩ rfl rfl rfl (by repeat' (first | exact trivial | exact .head _ | apply List.Mem.tail | apply And.intro)) (fun r0 hr0 => ⟨rfl, Nx.go ?_⟩))
    | (show CallK _ _ 34 _ _ _ _; refine CallK.lendS [0] (c_rnumX b j.r X _ e (.ok n r) hn (by omega) (by omega)) ⟨rfl, trivial⟩ rfl rfl rfl (by repeat' (first | exact trivial | exact .head _ | apply List.Mem.tail | apply And.intro)) (fun r0 hr0 => ⟨rfl, Nx.go ?_⟩))
    | (show SemC _ _ _ (.loop (.seq (.region 3 _ _) _)) _ _ _ _ _; refine SemC.loopB (c := (.seq (.region 3 _ _) _)) (fun j : LstB => [(10, .int .i64 j.i), (6, .vec 1 j.p j.n j.c)]) (fun j => [(b, .cells [.str j.r, X.x1, X.x2, X.x3, X.x4, X.x5, X.x6, X.x7, X.x8, X.x9, X.x10] 59), (j.b2, .vec encU 1 46 j.p j.n j.c j.l)]) (fun j => (j.i ≤ k ∧ j.n = j.i) ∧ j.n = j.l.length ∧ j.n + j.r.length ≤ s.length ∧ listR k s = (listR (k - j.i) j.r).pre j.l) (fun j => k - j.i) ⟨0, s, 0, none, 0, 0, []⟩ ?_; (conv => whnf); refine LoopQ.mk ?_ ⟨(by repeat (first | exact trivial | refine ⟨rfl, ?_⟩ | refine ⟨congrArg (Value.int _) (by omega), ?_⟩)), (Imp.nilVec encU 1 46)⟩ (fun j hi => ?_))
    | (show Exists _; refine Exists.intro (⟨j.i + 1, r0, bv, pv, j.n + ys.l.length, cv, j.l ++ ys.l⟩) ⟨?_, ?_, rfl, ⟨(by repeat (first | exact trivial | refine ⟨rfl, ?_⟩ | refine ⟨congrArg (Value.int _) (by omega), ?_⟩)), Imp.to 2 rfl (by repeat' (first | exact trivial | exact .head _ | apply List.Mem.tail | apply And.intro))⟩⟩)
    | (show CallK _ _ 34 _ _ _ _; rcases hn : numR 18446744073709551615 j.r with _ | _ | ⟨n, r⟩)
    | (show Post _ _ _ _ _; have hr : listR k s = .more := (by rw [hi.2.2.2, show k - j.i = (k - j.i - 1) + 1 by omega, listR_more hn]; rfl); exact Rs.post (r0, ⟨[], none, 0⟩) (by rw [hr]; rfl) (((Imp.nilVec encU 1 46).trans (Imp.pubS 2 rfl rfl)).trans (Imp.to 1 rfl (by repeat' (first | exact trivial | exact .head _ | apply List.Mem.tail | apply And.intro)))) (fun a q0 h => by rw [hr] at h; cases h))
    | (show Post _ _ _ _ _; have hr : listR k s = .bad := (by rw [hi.2.2.2, show k - j.i = (k - j.i - 1) + 1 by omega, listR_bad hn]; rfl); exact Rs.post (r0, ⟨[], none, 0⟩) (by rw [hr]; rfl) (((Imp.nilVec encU 1 46).trans (Imp.pubS 2 rfl rfl)).trans (Imp.to 1 rfl (by repeat' (first | exact trivial | exact .head _ | apply List.Mem.tail | apply And.intro)))) (fun a q0 h => by rw [hr] at h; cases h))
    | (show Post _ _ _ _ _; have hr : listR k s = .ok j.l j.r := (by rw [hi.2.2.2, show k - j.i = 0 by omega, listR, RR.pre, List.append_nil]); exact Rs.post (j.r, ⟨j.l, j.p, j.c⟩) (by rw [hr, hi.2.1]; rfl) ((Imp.pubS 1 rfl hi.2.1.symm).trans (Imp.to 1 rfl (by repeat' (first | exact trivial | exact .head _ | apply List.Mem.tail | apply And.intro)))) (fun a q0 h => by rw [hr] at h; cases h; exact ⟨rfl, rfl⟩))
    | (refine AR.i64 (by omega) ?_; conv => whnf)
    | (refine AR.u64 (by omega) ?_; conv => whnf)
    | (refine AR.u8 (by omega) ?_; conv => whnf)
    | (refine Ob.mk (by omega) ?_; conv => whnf)
    | (refine BR.mk (fun h => ?_) (fun h => ?_) <;> (first | rw [Bool.not_eq_true'] at h | rw [Bool.not_eq_false'] at h | skip) <;> (try rw [h]) <;> (first | replace h := of_decide_eq_true h | replace h := of_decide_eq_false h | replace h := eq_of_beq h | replace h := bne_iff_ne.1 h | replace h := beq_eq_false_iff_ne.1 h | replace h := bne_eq_false_iff_eq.1 h | skip) <;> conv => whnf)
  · exact ⟨⟨Nat.zero_le _, rfl⟩, rfl, by dsimp only; omega, by dsimp only; cases listR k s <;> rfl⟩
  · have := numR_len hn; rw [hys]; simp; omega
  · have := numR_len hn; rw [hys]; simp; omega
  · have := numR_len hn
    obtain rfl := hr0 _ _ rfl
    refine ⟨⟨by dsimp only; omega, by dsimp only; rw [hys]; simp; omega⟩, by dsimp only; rw [List.length_append]; omega, by dsimp only; rw [hys]; simp; omega, ?_⟩
    dsimp only
    rw [hi.2.2.2, hys, show k - j.i = (k - (j.i + 1)) + 1 by omega, listR_ok hn]
  · dsimp only; omega
end Go.Proofs.YtpdpajafaifcjaaGreatDoor

/- reader3 -/
namespace Go.Proofs.YtpdpajafaifcjaaGreatDoor
open Go.Proofs.YtpdpajafaifcjaaGreatDoor.W
set_option maxRecDepth 100000
set_option linter.unusedVariables false
theorem c_rlistX (b : Nat) (s : List UInt8) (X : X10) (m : Int) (k : Nat) (e : Errs) (g : RR (List UInt64)) (hg : listR k s = g) (hm : m = (k : Nat)) (hs : s.length ≤ 1000000) : Ct Tryz.prog 46 [(b, .cells [.str s, X.x1, X.x2, X.x3, X.x4, X.x5, X.x6, X.x7, X.x8, X.x9, X.x10] 59)] [.own 0 b 0, .int .i64 m] (gAll e)
    (Rs (fun x : List UInt8 × Sli UInt64 => g.sv e.cm e.cn (.raw (.slice none 0 0)) (fun _ => x.2.sv)) (fun x => [(b, .cells [.str x.1, X.x1, X.x2, X.x3, X.x4, X.x5, X.x6, X.x7, X.x8, X.x9, X.x10] 59)]) (fun x => [x.2.f encU 1]) (fun x => ∀ a q, g = .ok a q → x.1 = q ∧ x.2.l = a)) := by
  subst hg hm; exact c_rlist b s X k e hs
/-- a number, and w times as many numbers -/
def cntR (mx : Int) (w : Nat) (s : List UInt8) : RR (List UInt64) :=
  match numR mx s with
  | .more => .more
  | .bad => .bad
  | .ok n r => listR (n.toNat * w) r
theorem numR_le {mx : Int} {s : List UInt8} {n : UInt64} {r : List UInt8} (h : numR mx s = .ok n r) (hx : mx ≤ 18446744073709551615) : (n.toNat : Int) ≤ mx := by
  unfold numR at h
  split at h
  · cases h
  · cases h
  · split at h
    · cases h
    · cases h; rw [ofNat_toNat _ (by omega)]; omega

theorem c_rcnt (b : Nat) (s : List UInt8) (X : X10) (mx : Int) (w : Nat) (e : Errs) (hs : s.length ≤ 1000000) (hx : mx ≤ 1048576) (hw : w ≤ 4) : Ct Tryz.prog 45 [(b, .cells [.str s, X.x1, X.x2, X.x3, X.x4, X.x5, X.x6, X.x7, X.x8, X.x9, X.x10] 59)] [.own 0 b 0, .int .u64 mx, .int .i64 (w : Nat)] (gAll e) (Rs (fun x : List UInt8 × Sli UInt64 => (cntR mx w s).sv e.cm e.cn (.raw (.slice none 0 0)) (fun _ => x.2.sv)) (fun x => [(b, .cells [.str x.1, X.x1, X.x2, X.x3, X.x4, X.x5, X.x6, X.x7, X.x8, X.x9, X.x10] 59)]) (fun x => [x.2.f encU 1]) (fun x => ∀ a q, cntR mx w s = .ok a q → x.1 = q ∧ x.2.l = a)) := by
  refine Ct.post (Ct.of Tryz.func45 rfl (n := 27) rfl rfl rfl ?_)
  conv => whnf
  repeat' first
    | (show AR .i64 (n.toNat : Int) _; refine AR.i64 (by have h1 := numR_le hn (by omega); omega) ?_; conv => whnf)
    | (show AR .i64 ((n.toNat : Int) * _) _; refine AR.i64 (by have h1 := numR_le hn (by omega); have h2 : n.toNat * w ≤ 1048576 * 4 := Nat.mul_le_mul (by omega) hw; have h3 : ((n.toNat : Int) * (w : Int)) = ((n.toNat * w : Nat) : Int) := (by rw [Int.natCast_mul]); rw [h3]; omega) ?_; conv => whnf)
    | (refine Ob.mk rfl ?_; conv => whnf)
    | (refine Nx.mk ?_; conv => whnf)
    | (refine BR.yes ?_; conv => whnf)
    | (refine BR.no ?_; conv => whnf)
    | (show CallK _ _ 34 _ _ _ _; refine CallK.lendS [0] (c_rnumX b s X mx e .more hn (by omega) (by omega)) ⟨rfl, trivial⟩ rfl rfl rfl (by repeat' (first | exact trivial | exact .head _ | apply List.Mem.tail | apply And.intro)) (fun r0 hr0 => ⟨rfl, Nx.go ?_⟩))
    | (show CallK _ _ 34 _ _ _ _; refine CallK.lendS [0] (c_rnumX b s X mx e .bad hn (by omega) (by omega)) ⟨rfl, trivial⟩ rfl rfl rfl (by repeat' (first | exact trivial | exact .head _ | apply List.Mem.tail | apply And.intro)) (fun r0 hr0 => ⟨rfl, Nx.go ?_⟩))
    | (show CallK _ _ 34 _ _ _ _; refine CallK.lendS [0] (c_rnumX b s X mx e (.ok n r) hn (by omega) (by omega)) ⟨rfl, trivial⟩ rfl rfl rfl (by repeat' (first | exact trivial | exact .head _ | apply List.Mem.tail | apply And.intro)) (fun r0 hr0 => ⟨rfl, Nx.go ?_⟩))
    | (show CallK _ _ 46 _ _ _ _; refine CallK.lendS [0] (c_rlistX b _ X _ (n.toNat * w) e .more hl (by rw [Int.natCast_mul]) (by have := numR_len hn; omega)) ⟨rfl, trivial⟩ rfl rfl rfl (by repeat' (first | exact trivial | exact .head _ | apply List.Mem.tail | apply And.intro)) (fun z hz => ⟨rfl, Nx.go ?_⟩))
    | (show CallK _ _ 46 _ _ _ _; refine CallK.lendS [0] (c_rlistX b _ X _ (n.toNat * w) e .bad hl (by rw [Int.natCast_mul]) (by have := numR_len hn; omega)) ⟨rfl, trivial⟩ rfl rfl rfl (by repeat' (first | exact trivial | exact .head _ | apply List.Mem.tail | apply And.intro)) (fun z hz => ⟨rfl, Nx.go ?_⟩))
    | (show CallK _ _ 46 _ _ _ _; refine CallK.lendS [0] (c_rlistX b _ X _ (n.toNat * w) e (.ok l q) hl (by rw [Int.natCast_mul]) (by have := numR_len hn; omega)) ⟨rfl, trivial⟩ rfl rfl rfl (by repeat' (first | exact trivial | exact .head _ | apply List.Mem.tail | apply And.intro)) (fun z hz => ⟨rfl, Nx.go ?_⟩))
    | (show CallK _ _ 34 _ _ _ _; rcases hn : numR mx s with _ | _ | ⟨n, r⟩)
    | (show CallK _ _ 46 _ _ _ _; have hr1 := hr0 _ _ rfl; subst hr1; rcases hl : listR (n.toNat * w) r0 with _ | _ | ⟨l, q⟩)
    | (show Post _ _ _ _ _; have hr : cntR mx w s = .more := (by rw [cntR, hn]); exact Rs.post (r0, ⟨[], none, 0⟩) (by rw [hr]; rfl) (((Imp.nilVec encU 1 46).trans (Imp.pubS 1 rfl rfl)).trans (Imp.to 1 rfl (by repeat' (first | exact trivial | exact .head _ | apply List.Mem.tail | apply And.intro)))) (fun a q0 h => by rw [hr] at h; cases h))
    | (show Post _ _ _ _ _; have hr : cntR mx w s = .bad := (by rw [cntR, hn]); exact Rs.post (r0, ⟨[], none, 0⟩) (by rw [hr]; rfl) (((Imp.nilVec encU 1 46).trans (Imp.pubS 1 rfl rfl)).trans (Imp.to 1 rfl (by repeat' (first | exact trivial | exact .head _ | apply List.Mem.tail | apply And.intro)))) (fun a q0 h => by rw [hr] at h; cases h))
    | (show Post _ _ _ _ _; have hr : cntR mx w s = .more := (by rw [cntR, hn]; exact hl); exact Rs.post z (by rw [hr]; rfl) (Imp.to 1 rfl (by repeat' (first | exact trivial | exact .head _ | apply List.Mem.tail | apply And.intro))) (fun a q0 h => by rw [hr] at h; exact hz a q0 h))
    | (show Post _ _ _ _ _; have hr : cntR mx w s = .bad := (by rw [cntR, hn]; exact hl); exact Rs.post z (by rw [hr]; rfl) (Imp.to 1 rfl (by repeat' (first | exact trivial | exact .head _ | apply List.Mem.tail | apply And.intro))) (fun a q0 h => by rw [hr] at h; exact hz a q0 h))
    | (show Post _ _ _ _ _; have hr : cntR mx w s = .ok l q := (by rw [cntR, hn]; exact hl); exact Rs.post z (by rw [hr]; rfl) (Imp.to 1 rfl (by repeat' (first | exact trivial | exact .head _ | apply List.Mem.tail | apply And.intro))) (fun a q0 h => by rw [hr] at h; exact hz a q0 h))
    | (refine AR.i64 (by omega) ?_; conv => whnf)
    | (refine AR.u64 (by omega) ?_; conv => whnf)
    | (refine AR.u8 (by omega) ?_; conv => whnf)
    | (refine Ob.mk (by omega) ?_; conv => whnf)
    | (refine BR.mk (fun h => ?_) (fun h => ?_) <;> (first | rw [Bool.not_eq_true'] at h | rw [Bool.not_eq_false'] at h | skip) <;> (try rw [h]) <;> (first | replace h := of_decide_eq_true h | replace h := of_decide_eq_false h | replace h := eq_of_beq h | replace h := bne_iff_ne.1 h | replace h := beq_eq_false_iff_ne.1 h | replace h := bne_eq_false_iff_eq.1 h | skip) <;> conv => whnf)
end Go.Proofs.YtpdpajafaifcjaaGreatDoor

/- reader4 -/
namespace Go.Proofs.YtpdpajafaifcjaaGreatDoor
open Go.Proofs.YtpdpajafaifcjaaGreatDoor.W
set_option maxRecDepth 100000
set_option linter.unusedVariables false
theorem AR.shlOne {g : Int} {q : Int → Prop} (hg : 0 < g ∧ g ≤ 8) (hq : q ((2 ^ (8 - g).toNat : Nat) : Int)) : AR .i64 (1 * 2 ^ min (8 - g).toNat IntKind.i64.bits) q := by
  have e : (1 * 2 ^ min (8 - g).toNat IntKind.i64.bits : Int) = ((2 ^ (8 - g).toNat : Nat) : Int) := by
    rw [Int.one_mul, Nat.min_eq_left (by show _ ≤ 64; omega), Int.natCast_pow]; rfl
  have h : 2 ^ (8 - g).toNat ≤ 256 := Nat.le_trans (Nat.pow_le_pow_right (n := 2) (by omega) (show (8 - g).toNat ≤ 8 by omega)) (by decide)
  rw [e]; generalize 2 ^ (8 - g).toNat = m at *; exact AR.i64 (by omega) hq
theorem two_le {k : Nat} (h : k ≤ 8) : 2 ^ k ≤ 256 := Nat.le_trans (Nat.pow_le_pow_right (by omega) h) (by decide)

theorem c_disM (b : Nat) (s : List UInt8) (X : X10) (g : Int) (e : Errs) (hg : 0 < g ∧ g ≤ 8) (hs : s.length ≤ 1000000) (hl : (s.length : Int) < ((2 ^ (8 - g).toNat : Nat) : Int)) : Ct Tryz.prog 31 [(b, .cells [.str s, X.x1, .int .i64 g, X.x3, X.x4, X.x5, X.x6, X.x7, X.x8, X.x9, X.x10] 59)] [.own 0 b 0] (gAll e) (Rs (fun _ : Unit => er e.cm) (fun _ => [(b, .cells [.str s, X.x1, .int .i64 g, X.x3, .int .i64 (8 - g), X.x5, X.x6, X.x7, X.x8, X.x9, X.x10] 59)]) (fun _ => []) (fun _ => True)) := by
  refine Ct.post (Ct.of Tryz.func31 rfl (n := 95) rfl rfl rfl ?_)
  conv => whnf
  repeat' first
    | (show Ob (_ ∧ _ ≤ s.length) _; refine Ob.mk (by have h2 := Int.ofNat_le.1 (Int.not_lt.1 hl); first | exact ⟨Nat.zero_le _, h2⟩ | exact ⟨h2, Nat.le_refl _⟩) ?_; conv => whnf)
    | (show AR .i64 (1 * 2 ^ _) _; refine AR.shlOne hg ?_; conv => whnf)
    | (show BR (decide (g > 0)) _ _; refine BR.yesK (decide_eq_true hg.1) ?_; conv => whnf)
    | (show BR (decide ((s.length : Int) < _)) _ _; refine BR.yesK (decide_eq_true hl) ?_; conv => whnf)
    | (refine Ob.mk rfl ?_; conv => whnf)
    | (refine Nx.mk ?_; conv => whnf)
    | (refine BR.yes ?_; conv => whnf)
    | (refine BR.no ?_; conv => whnf)
    | (intro bk; conv => whnf)
    | (show Post _ _ _ _ _; exact Rs.post () rfl (Imp.to 1 rfl (by repeat' (first | exact trivial | exact .head _ | apply List.Mem.tail | apply And.intro))) trivial)
    | (refine SemC.draw 6 [0] [.t 0, .m 1, .t 2, .t 3, .t 4, .t 5, .t 6, .t 7, .t 8, .t 9, .t 10, .t 11, .t 12, .t 13, .m 14, .m 15, .t 16, .t 17, .t 18, .t 19, .w 20, .t 21, .t 22, .t 23, .l 24] (by kernel_rfl) (by kernel_rfl) ?_; conv => whnf)
    | (refine Idx.nat ?_; conv => whnf)
    | (refine Idx.is _ rfl ?_; conv => whnf)
    | (show HasP _ _ _ _ _ _; refine HasP.mk' (by repeat (first | exact .head _ | apply List.Mem.tail)) (Nx.go ?_))
    | (show RdE _ _ _ _ _ _ _; refine RdE.s (by repeat (first | exact .head _ | apply List.Mem.tail)) (by omega) (fun xe hxe => Nx.go ?_))
    | (show RdB _ _ _; refine RdB.mk' (by repeat (first | exact .head _ | apply List.Mem.tail)) (Nx.go ?_))
    | (show SlW _ _ _ _ _ _ _ _ _; refine SlW.s (by repeat (first | exact .head _ | apply List.Mem.tail)) (by omega) (fun ys hys hcs => Nx.go ?_))
    | (refine AR.i64 (by omega) ?_; conv => whnf)
    | (refine AR.u64 (by omega) ?_; conv => whnf)
    | (refine AR.u8 (by omega) ?_; conv => whnf)
    | (refine Ob.mk (by omega) ?_; conv => whnf)
    | (refine BR.mk (fun h => ?_) (fun h => ?_) <;> (first | rw [Bool.not_eq_true'] at h | rw [Bool.not_eq_false'] at h | skip) <;> (try rw [h]) <;> (first | replace h := of_decide_eq_true h | replace h := of_decide_eq_false h | replace h := eq_of_beq h | replace h := bne_iff_ne.1 h | replace h := beq_eq_false_iff_ne.1 h | replace h := bne_eq_false_iff_eq.1 h | skip) <;> conv => whnf)

theorem c_disO (b : Nat) (s : List UInt8) (X : X10) (g : Int) (e : Errs) (hg : 0 < g ∧ g ≤ 8) (hs : s.length ≤ 1000000) (hl : ¬ (s.length : Int) < ((2 ^ (8 - g).toNat : Nat) : Int)) : Ct Tryz.prog 31 [(b, .cells [.str s, X.x1, .int .i64 g, X.x3, X.x4, X.x5, X.x6, X.x7, X.x8, X.x9, X.x10] 59)] [.own 0 b 0] (gAll e) (Rs (fun _ : Unit => .raw .nilIface) (fun _ => [(b, .cells [.str (s.drop (2 ^ (8 - g).toNat)), X.x1, .int .i64 g, X.x3, .int .i64 (8 - g), .str (s.take (2 ^ (8 - g).toNat)), X.x6, X.x7, X.x8, X.x9, X.x10] 59)]) (fun _ => []) (fun _ => True)) := by
  refine Ct.post (Ct.of Tryz.func31 rfl (n := 95) rfl rfl rfl ?_)
  conv => whnf
  repeat' first
    | (show Ob (_ ∧ _ ≤ s.length) _; refine Ob.mk (by have h2 := Int.ofNat_le.1 (Int.not_lt.1 hl); first | exact ⟨Nat.zero_le _, h2⟩ | exact ⟨h2, Nat.le_refl _⟩) ?_; conv => whnf)
    | (show AR .i64 (1 * 2 ^ _) _; refine AR.shlOne hg ?_; conv => whnf)
    | (show BR (decide (g > 0)) _ _; refine BR.yesK (decide_eq_true hg.1) ?_; conv => whnf)
    | (show BR (decide ((s.length : Int) < _)) _ _; refine BR.noK (decide_eq_false hl) ?_; conv => whnf)
    | (refine Ob.mk rfl ?_; conv => whnf)
    | (refine Nx.mk ?_; conv => whnf)
    | (refine BR.yes ?_; conv => whnf)
    | (refine BR.no ?_; conv => whnf)
    | (intro bk; conv => whnf)
    | (show Post _ _ _ _ _; refine Rs.post () rfl ?_ trivial; rw [List.take_length]; exact Imp.to 1 rfl (by repeat' (first | exact trivial | exact .head _ | apply List.Mem.tail | apply And.intro)))
    | (refine SemC.draw 6 [0] [.t 0, .m 1, .t 2, .t 3, .t 4, .t 5, .t 6, .t 7, .t 8, .t 9, .t 10, .t 11, .t 12, .t 13, .m 14, .m 15, .t 16, .t 17, .t 18, .t 19, .w 20, .t 21, .t 22, .t 23, .l 24] (by kernel_rfl) (by kernel_rfl) ?_; conv => whnf)
    | (refine Idx.nat ?_; conv => whnf)
    | (refine Idx.is _ rfl ?_; conv => whnf)
    | (show HasP _ _ _ _ _ _; refine HasP.mk' (by repeat (first | exact .head _ | apply List.Mem.tail)) (Nx.go ?_))
    | (show RdE _ _ _ _ _ _ _; refine RdE.s (by repeat (first | exact .head _ | apply List.Mem.tail)) (by omega) (fun xe hxe => Nx.go ?_))
    | (show RdB _ _ _; refine RdB.mk' (by repeat (first | exact .head _ | apply List.Mem.tail)) (Nx.go ?_))
    | (show SlW _ _ _ _ _ _ _ _ _; refine SlW.s (by repeat (first | exact .head _ | apply List.Mem.tail)) (by omega) (fun ys hys hcs => Nx.go ?_))
    | (refine AR.i64 (by omega) ?_; conv => whnf)
    | (refine AR.u64 (by omega) ?_; conv => whnf)
    | (refine AR.u8 (by omega) ?_; conv => whnf)
    | (refine Ob.mk (by omega) ?_; conv => whnf)
    | (refine BR.mk (fun h => ?_) (fun h => ?_) <;> (first | rw [Bool.not_eq_true'] at h | rw [Bool.not_eq_false'] at h | skip) <;> (try rw [h]) <;> (first | replace h := of_decide_eq_true h | replace h := of_decide_eq_false h | replace h := eq_of_beq h | replace h := bne_iff_ne.1 h | replace h := beq_eq_false_iff_ne.1 h | replace h := bne_eq_false_iff_eq.1 h | skip) <;> conv => whnf)
end Go.Proofs.YtpdpajafaifcjaaGreatDoor

/- reader5 -/
namespace Go.Proofs.YtpdpajafaifcjaaGreatDoor
open Go.Proofs.YtpdpajafaifcjaaGreatDoor.W
set_option maxRecDepth 100000
set_option linter.unusedVariables false
theorem c_rcntX (b : Nat) (s : List UInt8) (X : X10) (mx : Int) (w : Nat) (e : Errs) (g : RR (List UInt64)) (hg : cntR mx w s = g) (hs : s.length ≤ 1000000) (hx : mx ≤ 1048576) (hw : w ≤ 4) (m : Int) (hm : m = (w : Nat)) : Ct Tryz.prog 45 [(b, .cells [.str s, X.x1, X.x2, X.x3, X.x4, X.x5, X.x6, X.x7, X.x8, X.x9, X.x10] 59)] [.own 0 b 0, .int .u64 mx, .int .i64 m] (gAll e)
    (Rs (fun x : List UInt8 × Sli UInt64 => g.sv e.cm e.cn (.raw (.slice none 0 0)) (fun _ => x.2.sv)) (fun x => [(b, .cells [.str x.1, X.x1, X.x2, X.x3, X.x4, X.x5, X.x6, X.x7, X.x8, X.x9, X.x10] 59)]) (fun x => [x.2.f encU 1]) (fun x => ∀ a q, g = .ok a q → x.1 = q ∧ x.2.l = a)) := by
  subst hg hm; exact c_rcnt b s X mx w e hs hx hw
/-- the running sums -/
def sumsU : UInt64 → List UInt64 → List UInt64
  | _, [] => []
  | a, x :: l => (a + x) :: sumsU (a + x) l
def lastU (a : UInt64) (l : List UInt64) : UInt64 := l.foldl (· + ·) a
theorem sumsU_snoc (a : UInt64) (l : List UInt64) (x : UInt64) : sumsU a (l ++ [x]) = sumsU a l ++ [lastU a l + x] := by
  induction l generalizing a with
  | nil => rfl
  | cons y l ih => simp [sumsU, ih, lastU]
theorem sumsU_len (a : UInt64) (l : List UInt64) : (sumsU a l).length = l.length := by
  induction l generalizing a with
  | nil => rfl
  | cons y l ih => simp [sumsU, ih]
theorem lastU_snoc (a : UInt64) (l : List UInt64) (x : UInt64) : lastU a (l ++ [x]) = lastU a l + x := by simp [lastU]

structure DisB where
  i : Nat
  b2 : Nat
  p : Option Addr
  n : Nat
  c : Nat
  l : List UInt64
  a : UInt64

theorem c_dis0 (b : Nat) (s : List UInt8) (X : X10) (e : Errs) (l : List UInt64) (q : List UInt8) (hg : cntR 64 1 s = .ok l q) (hll : l.length ≤ 100) (hs : s.length ≤ 1000000) : Ct Tryz.prog 31 [(b, .cells [.str s, X.x1, .int .i64 0, .raw (.slice none 0 0), X.x4, X.x5, X.x6, X.x7, X.x8, X.x9, X.x10] 59)] [.own 0 b 0] (gAll e) (Rs (fun _ : Sli UInt64 => .raw .nilIface) (fun y => [(b, .cells [.str q, X.x1, .int .i64 0, y.sv, X.x4, X.x5, X.x6, X.x7, X.x8, X.x9, X.x10] 59)]) (fun y => [y.f encU 1]) (fun y => y.l = sumsU 0 l)) := by
  refine Ct.post (Ct.of Tryz.func31 rfl (n := 95) rfl rfl rfl ?_)
  conv => whnf
  repeat' first
    | (show SemO _ _ (.buildSlice _ _ #[(0, .tmp 86)]) _ _ _ _ _; refine SemO.lit ?_; (conv => whnf); show BsV _ _ _ _ _; refine BsV.s [j.a + xe] (by repeat (first | exact .nil | refine .cons (by first | rfl | exact encB_of (by omega) | exact encU_U (by omega)) ?_)) (fun xo _ => okE_encU xo) (fun ys hys => Nx.go ?_))
    | (show SemO _ _ (.call ⟨.builtin .append, _, _⟩) _ _ _ _ _; refine SemO.appendVec ?_; (conv => whnf); refine Ob.mk ⟨rfl, rfl, rfl, rfl, rfl⟩ ?_)
    | (show AppV _ _ _ _ _ _ _ _ _ _ _ _ _ _; refine ⟨rfl, _, .fact (by repeat (first | exact .head _ | apply List.Mem.tail)), app_le (N := 1048576) ?_ (of_decide_eq_true (by kernel_rfl)), ?_, fun bv pv cv hcv => Nx.go ?_⟩)
    | (show AR .u64 ((j.a.toNat : Int) + _) _; refine AR.addU ?_; conv => whnf)
    | (show AR .i64 ((j.i : Int) + 1) _; refine AR.i64 (by have h8 := congrArg List.length (hz _ _ rfl).2; omega) ?_; conv => whnf)
    | (refine Ob.mk rfl ?_; conv => whnf)
    | (refine Nx.mk ?_; conv => whnf)
    | (refine BR.yes ?_; conv => whnf)
    | (refine BR.no ?_; conv => whnf)
    | (intro bk; conv => whnf)
    | (show CallK _ _ 45 _ _ _ _; refine CallK.lendS [0] (c_rcntX b s ⟨X.x1, .int .i64 0, .raw (.slice none 0 0), X.x4, X.x5, X.x6, X.x7, X.x8, X.x9, X.x10⟩ 64 1 e (.ok l q) hg hs (by decide) (by decide) 1 rfl) ⟨rfl, trivial⟩ rfl rfl rfl (by repeat' (first | exact trivial | exact .head _ | apply List.Mem.tail | apply And.intro)) (fun z hz => ⟨rfl, Nx.go ?_⟩))
    | (show SemC _ _ _ (.loop (.seq (.region 11 _ _) _)) _ _ _ _ _; refine SemC.loopB (c := (.seq (.region 11 _ _) _)) (fun j : DisB => [(72, .int .i64 j.i), (6, .int .u64 j.a.toNat)]) (fun j => [(b, .cells [.str z.1, X.x1, .int .i64 0, .vec 1 j.p j.n j.c, X.x4, X.x5, X.x6, X.x7, X.x8, X.x9, X.x10] 59), (j.b2, .vec encU 1 46 j.p j.n j.c j.l)]) (fun j => j.i ≤ z.2.l.length ∧ j.n = j.i ∧ j.l = sumsU 0 (z.2.l.take j.i) ∧ j.a = lastU 0 (z.2.l.take j.i)) (fun j => z.2.l.length - j.i) ⟨0, 0, none, 0, 0, [], 0⟩ ?_; (conv => whnf); refine LoopQ.mk ?_ ⟨(by repeat (first | exact trivial | refine ⟨rfl, ?_⟩ | refine ⟨congrArg (Value.int _) (by omega), ?_⟩)), ((Imp.nilVec encU 1 46).trans (Imp.recell 0 rfl rfl))⟩ (fun j hi => ?_))
    | (show Exists _; refine Exists.intro (⟨j.i + 1, bv, pv, j.n + ys.l.length, cv, j.l ++ ys.l, j.a + xe⟩) ⟨?_, ?_, rfl, ⟨(by repeat (first | exact trivial | refine ⟨rfl, ?_⟩ | refine ⟨congrArg (Value.int _) (by omega), ?_⟩)), Imp.to 2 rfl (by repeat' (first | exact trivial | exact .head _ | apply List.Mem.tail | apply And.intro))⟩⟩)
    | (show Post _ _ _ _ _; have hz1 := hz _ _ rfl; have hn : j.n = j.l.length := (by rw [hi.2.2.1, sumsU_len, List.length_take]; omega); obtain ⟨hz1, hz2⟩ := hz1; subst hz1; exact Rs.post ⟨j.l, j.p, j.c⟩ rfl (((Imp.pubS 1 rfl hn.symm).trans (Imp.recell 0 rfl (by rw [hn]; rfl))).trans (Imp.to 1 rfl (by repeat' (first | exact trivial | exact .head _ | apply List.Mem.tail | apply And.intro)))) (by show j.l = _; rw [hi.2.2.1, ← hz2, show j.i = z.2.l.length by omega, List.take_length]))
    | (refine SemC.draw 6 [] [.t 0, .m 1, .t 2, .t 3, .t 4, .t 5, .t 6, .t 7, .t 8, .t 9, .t 10, .t 11, .t 12, .t 13, .m 14, .m 15, .t 16, .t 17, .t 18, .t 19, .w 20, .t 21, .t 22, .t 23, .l 24] (by kernel_rfl) (by kernel_rfl) ?_; conv => whnf)
    | (refine Idx.nat ?_; conv => whnf)
    | (refine Idx.is _ rfl ?_; conv => whnf)
    | (show HasP _ _ _ _ _ _; refine HasP.mk' (by repeat (first | exact .head _ | apply List.Mem.tail)) (Nx.go ?_))
    | (show RdE _ _ _ _ _ _ _; refine RdE.s (by repeat (first | exact .head _ | apply List.Mem.tail)) (by omega) (fun xe hxe => Nx.go ?_))
    | (show RdB _ _ _; refine RdB.mk' (by repeat (first | exact .head _ | apply List.Mem.tail)) (Nx.go ?_))
    | (show SlW _ _ _ _ _ _ _ _ _; refine SlW.s (by repeat (first | exact .head _ | apply List.Mem.tail)) (by omega) (fun ys hys hcs => Nx.go ?_))
    | (refine AR.i64 (by omega) ?_; conv => whnf)
    | (refine AR.u64 (by omega) ?_; conv => whnf)
    | (refine AR.u8 (by omega) ?_; conv => whnf)
    | (refine Ob.mk (by omega) ?_; conv => whnf)
    | (refine BR.mk (fun h => ?_) (fun h => ?_) <;> (first | rw [Bool.not_eq_true'] at h | rw [Bool.not_eq_false'] at h | skip) <;> (try rw [h]) <;> (first | replace h := of_decide_eq_true h | replace h := of_decide_eq_false h | replace h := eq_of_beq h | replace h := bne_iff_ne.1 h | replace h := beq_eq_false_iff_ne.1 h | replace h := bne_eq_false_iff_eq.1 h | skip) <;> conv => whnf)
  · exact ⟨Nat.zero_le _, rfl, rfl, rfl⟩
  · have h8 := congrArg List.length (hz _ _ rfl).2; rw [hys]; simp; omega
  · have h8 := congrArg List.length (hz _ _ rfl).2; rw [hys]; simp; omega
  · refine ⟨by dsimp only; omega, by dsimp only; rw [hys]; simp; omega, ?_, ?_⟩
    · dsimp only; rw [hys, hi.2.2.1, hi.2.2.2, List.take_add_one, hxe, Option.toList_some, sumsU_snoc]
    · dsimp only; rw [hi.2.2.2, List.take_add_one, hxe, Option.toList_some, lastU_snoc]
  · dsimp only; omega

theorem c_dis0M (b : Nat) (s : List UInt8) (X : X10) (e : Errs) (hg : cntR 64 1 s = .more) (hs : s.length ≤ 1000000) : Ct Tryz.prog 31 [(b, .cells [.str s, X.x1, .int .i64 0, .raw (.slice none 0 0), X.x4, X.x5, X.x6, X.x7, X.x8, X.x9, X.x10] 59)] [.own 0 b 0] (gAll e) (Rs (fun _ : List UInt8 => er e.cm) (fun r => [(b, .cells [.str r, X.x1, .int .i64 0, .raw (.slice none 0 0), X.x4, X.x5, X.x6, X.x7, X.x8, X.x9, X.x10] 59)]) (fun _ => []) (fun _ => True)) := by
  refine Ct.post (Ct.of Tryz.func31 rfl (n := 95) rfl rfl rfl ?_)
  conv => whnf
  repeat' first
    | (show BR (decide ((j : Int) < _)) _ _; refine BR.noK (decide_eq_false (by subst hi; decide)) ?_; conv => whnf)
    | (refine Ob.mk rfl ?_; conv => whnf)
    | (refine Nx.mk ?_; conv => whnf)
    | (refine BR.yes ?_; conv => whnf)
    | (refine BR.no ?_; conv => whnf)
    | (intro bk; conv => whnf)
    | (show CallK _ _ 45 _ _ _ _; refine CallK.lendS [0] (c_rcntX b s ⟨X.x1, .int .i64 0, .raw (.slice none 0 0), X.x4, X.x5, X.x6, X.x7, X.x8, X.x9, X.x10⟩ 64 1 e .more hg hs (by decide) (by decide) 1 rfl) ⟨rfl, trivial⟩ rfl rfl rfl (by repeat' (first | exact trivial | exact .head _ | apply List.Mem.tail | apply And.intro)) (fun z hz => ⟨rfl, Nx.go ?_⟩))
    | (show SemC _ _ _ (.loop (.seq (.region 11 _ _) _)) _ _ _ _ _; refine SemC.loopC (c := (.seq (.region 11 _ _) _)) (fun j : Nat => [(72, .int .i64 j), (6, .int .u64 0)]) (fun j => j = 0) (fun j => 0) 0 ?_; (conv => whnf); refine LoopQ.mk ?_ ⟨(by repeat (first | exact trivial | refine ⟨rfl, ?_⟩ | refine ⟨congrArg (Value.int _) (by omega), ?_⟩)), Imp.refl⟩ (fun j hi => ?_))
    | (show Post _ _ _ _ _; exact Rs.post z.1 rfl (Imp.to 1 rfl (by repeat' (first | exact trivial | exact .head _ | apply List.Mem.tail | apply And.intro))) trivial)
    | (refine SemC.draw 6 [] [.t 0, .m 1, .t 2, .t 3, .t 4, .t 5, .t 6, .t 7, .t 8, .t 9, .t 10, .t 11, .t 12, .t 13, .m 14, .m 15, .t 16, .t 17, .t 18, .t 19, .w 20, .t 21, .t 22, .t 23, .l 24] (by kernel_rfl) (by kernel_rfl) ?_; conv => whnf)
    | (refine Idx.nat ?_; conv => whnf)
    | (refine Idx.is _ rfl ?_; conv => whnf)
    | (show HasP _ _ _ _ _ _; refine HasP.mk' (by repeat (first | exact .head _ | apply List.Mem.tail)) (Nx.go ?_))
    | (show RdE _ _ _ _ _ _ _; refine RdE.s (by repeat (first | exact .head _ | apply List.Mem.tail)) (by omega) (fun xe hxe => Nx.go ?_))
    | (show RdB _ _ _; refine RdB.mk' (by repeat (first | exact .head _ | apply List.Mem.tail)) (Nx.go ?_))
    | (show SlW _ _ _ _ _ _ _ _ _; refine SlW.s (by repeat (first | exact .head _ | apply List.Mem.tail)) (by omega) (fun ys hys hcs => Nx.go ?_))
    | (refine AR.i64 (by omega) ?_; conv => whnf)
    | (refine AR.u64 (by omega) ?_; conv => whnf)
    | (refine AR.u8 (by omega) ?_; conv => whnf)
    | (refine Ob.mk (by omega) ?_; conv => whnf)
    | (refine BR.mk (fun h => ?_) (fun h => ?_) <;> (first | rw [Bool.not_eq_true'] at h | rw [Bool.not_eq_false'] at h | skip) <;> (try rw [h]) <;> (first | replace h := of_decide_eq_true h | replace h := of_decide_eq_false h | replace h := eq_of_beq h | replace h := bne_iff_ne.1 h | replace h := beq_eq_false_iff_ne.1 h | replace h := bne_eq_false_iff_eq.1 h | skip) <;> conv => whnf)
  rfl

theorem c_dis0B (b : Nat) (s : List UInt8) (X : X10) (e : Errs) (hg : cntR 64 1 s = .bad) (hs : s.length ≤ 1000000) : Ct Tryz.prog 31 [(b, .cells [.str s, X.x1, .int .i64 0, .raw (.slice none 0 0), X.x4, X.x5, X.x6, X.x7, X.x8, X.x9, X.x10] 59)] [.own 0 b 0] (gAll e) (Rs (fun _ : List UInt8 => er e.cn) (fun r => [(b, .cells [.str r, X.x1, .int .i64 0, .raw (.slice none 0 0), X.x4, X.x5, X.x6, X.x7, X.x8, X.x9, X.x10] 59)]) (fun _ => []) (fun _ => True)) := by
  refine Ct.post (Ct.of Tryz.func31 rfl (n := 95) rfl rfl rfl ?_)
  conv => whnf
  repeat' first
    | (show BR (decide ((j : Int) < _)) _ _; refine BR.noK (decide_eq_false (by subst hi; decide)) ?_; conv => whnf)
    | (refine Ob.mk rfl ?_; conv => whnf)
    | (refine Nx.mk ?_; conv => whnf)
    | (refine BR.yes ?_; conv => whnf)
    | (refine BR.no ?_; conv => whnf)
    | (intro bk; conv => whnf)
    | (show CallK _ _ 45 _ _ _ _; refine CallK.lendS [0] (c_rcntX b s ⟨X.x1, .int .i64 0, .raw (.slice none 0 0), X.x4, X.x5, X.x6, X.x7, X.x8, X.x9, X.x10⟩ 64 1 e .bad hg hs (by decide) (by decide) 1 rfl) ⟨rfl, trivial⟩ rfl rfl rfl (by repeat' (first | exact trivial | exact .head _ | apply List.Mem.tail | apply And.intro)) (fun z hz => ⟨rfl, Nx.go ?_⟩))
    | (show SemC _ _ _ (.loop (.seq (.region 11 _ _) _)) _ _ _ _ _; refine SemC.loopC (c := (.seq (.region 11 _ _) _)) (fun j : Nat => [(72, .int .i64 j), (6, .int .u64 0)]) (fun j => j = 0) (fun j => 0) 0 ?_; (conv => whnf); refine LoopQ.mk ?_ ⟨(by repeat (first | exact trivial | refine ⟨rfl, ?_⟩ | refine ⟨congrArg (Value.int _) (by omega), ?_⟩)), Imp.refl⟩ (fun j hi => ?_))
    | (show Post _ _ _ _ _; exact Rs.post z.1 rfl (Imp.to 1 rfl (by repeat' (first | exact trivial | exact .head _ | apply List.Mem.tail | apply And.intro))) trivial)
    | (refine SemC.draw 6 [] [.t 0, .m 1, .t 2, .t 3, .t 4, .t 5, .t 6, .t 7, .t 8, .t 9, .t 10, .t 11, .t 12, .t 13, .m 14, .m 15, .t 16, .t 17, .t 18, .t 19, .w 20, .t 21, .t 22, .t 23, .l 24] (by kernel_rfl) (by kernel_rfl) ?_; conv => whnf)
    | (refine Idx.nat ?_; conv => whnf)
    | (refine Idx.is _ rfl ?_; conv => whnf)
    | (show HasP _ _ _ _ _ _; refine HasP.mk' (by repeat (first | exact .head _ | apply List.Mem.tail)) (Nx.go ?_))
    | (show RdE _ _ _ _ _ _ _; refine RdE.s (by repeat (first | exact .head _ | apply List.Mem.tail)) (by omega) (fun xe hxe => Nx.go ?_))
    | (show RdB _ _ _; refine RdB.mk' (by repeat (first | exact .head _ | apply List.Mem.tail)) (Nx.go ?_))
    | (show SlW _ _ _ _ _ _ _ _ _; refine SlW.s (by repeat (first | exact .head _ | apply List.Mem.tail)) (by omega) (fun ys hys hcs => Nx.go ?_))
    | (refine AR.i64 (by omega) ?_; conv => whnf)
    | (refine AR.u64 (by omega) ?_; conv => whnf)
    | (refine AR.u8 (by omega) ?_; conv => whnf)
    | (refine Ob.mk (by omega) ?_; conv => whnf)
    | (refine BR.mk (fun h => ?_) (fun h => ?_) <;> (first | rw [Bool.not_eq_true'] at h | rw [Bool.not_eq_false'] at h | skip) <;> (try rw [h]) <;> (first | replace h := of_decide_eq_true h | replace h := of_decide_eq_false h | replace h := eq_of_beq h | replace h := bne_iff_ne.1 h | replace h := beq_eq_false_iff_ne.1 h | replace h := bne_eq_false_iff_eq.1 h | skip) <;> conv => whnf)
  rfl
end Go.Proofs.YtpdpajafaifcjaaGreatDoor

/- reader6 -/
namespace Go.Proofs.YtpdpajafaifcjaaGreatDoor
open Go.Proofs.YtpdpajafaifcjaaGreatDoor.W
set_option maxRecDepth 100000
set_option linter.unusedVariables false
theorem fdG {g : Int} (hg : 0 ≤ g ∧ g ≤ 5) : Int.fdiv 32 (2 ^ min g.toNat IntKind.i64.bits) = ((32 / 2 ^ g.toNat : Nat) : Int) := by
  have : g = 0 ∨ g = 1 ∨ g = 2 ∨ g = 3 ∨ g = 4 ∨ g = 5 := by omega
  rcases this with rfl | rfl | rfl | rfl | rfl | rfl <;> decide
theorem fdG2 {g : Int} (hg : 0 ≤ g ∧ g ≤ 5) : -9223372036854775808 ≤ 2 * Int.fdiv 32 (2 ^ min g.toNat IntKind.i64.bits) ∧ 2 * Int.fdiv 32 (2 ^ min g.toNat IntKind.i64.bits) ≤ 9223372036854775807 := by
  have : g = 0 ∨ g = 1 ∨ g = 2 ∨ g = 3 ∨ g = 4 ∨ g = 5 := by omega
  rcases this with rfl | rfl | rfl | rfl | rfl | rfl <;> decide

theorem c_cntM (b : Nat) (s : List UInt8) (X : X10) (g : Int) (e : Errs) (hg : 0 ≤ g ∧ g ≤ 5) (hl : listR (2 * (32 / 2 ^ g.toNat)) s = .more) (hs : s.length ≤ 1000000) : Ct Tryz.prog 32 [(b, .cells [.str s, X.x1, .int .i64 g, X.x3, X.x4, X.x5, X.x6, X.x7, X.x8, X.x9, X.x10] 59)] [.own 0 b 0] (gAll e) (Rs (fun _ : List UInt8 × Sli UInt64 => er e.cm) (fun z => [(b, .cells [.str z.1, X.x1, .int .i64 g, X.x3, X.x4, X.x5, .int .i64 2, .int .i64 (Int.fdiv 32 (2 ^ min g.toNat IntKind.i64.bits)), .raw (.slice none 0 0), X.x9, X.x10] 59)]) (fun z => [z.2.f encU 1]) (fun z => True)) := by
  refine Ct.post (Ct.of Tryz.func32 rfl (n := 46) rfl rfl rfl ?_)
  conv => whnf
  repeat' first
    | (show AR .i64 (2 * Int.fdiv 32 (2 ^ min g.toNat IntKind.i64.bits)) _; refine AR.i64 (fdG2 hg) ?_; conv => whnf)
    | (refine Ob.mk rfl ?_; conv => whnf)
    | (refine Nx.mk ?_; conv => whnf)
    | (show CallK _ _ 46 _ _ _ _; refine CallK.lendS [0] (c_rlistX b s ⟨X.x1, .int .i64 g, X.x3, X.x4, X.x5, .int .i64 2, .int .i64 (Int.fdiv 32 (2 ^ min g.toNat IntKind.i64.bits)), X.x8, X.x9, X.x10⟩ _ _ e .more hl (by rw [fdG hg, Int.natCast_mul]; rfl) hs) ⟨rfl, trivial⟩ rfl rfl rfl (by repeat' (first | exact trivial | exact .head _ | apply List.Mem.tail | apply And.intro)) (fun z hz => ⟨rfl, Nx.go ?_⟩))
    | (show Post _ _ _ _ _; exact Rs.post z rfl (Imp.to 1 rfl (by repeat' (first | exact trivial | exact .head _ | apply List.Mem.tail | apply And.intro))) trivial)
    | (refine SemC.draw 1 [0] [.t 0, .m 1, .t 2, .t 3, .t 4, .t 5, .t 6, .m 7, .t 8, .t 9, .t 10, .t 11, .w 12, .t 13, .t 14, .t 15, .t 16, .l 17] (by kernel_rfl) (by kernel_rfl) ?_; conv => whnf)
    | (refine SemC.draw 2 [] [.t 0, .t 1, .t 2, .t 3, .t 4, .t 5, .t 6, .t 7, .t 8, .t 9, .t 10, .t 11, .t 12, .t 13, .l 14, .t 15, .t 16, .t 17, .t 18, .t 19] (by kernel_rfl) (by kernel_rfl) ?_; conv => whnf)
    | (show RdB _ _ _; refine RdB.mk' (by repeat (first | exact .head _ | apply List.Mem.tail)) (Nx.go ?_))
    | (refine AR.i64 (by omega) ?_; conv => whnf)
    | (refine AR.u64 (by omega) ?_; conv => whnf)
    | (refine AR.u8 (by omega) ?_; conv => whnf)
    | (refine Ob.mk (by omega) ?_; conv => whnf)

theorem c_cntB (b : Nat) (s : List UInt8) (X : X10) (g : Int) (e : Errs) (hg : 0 ≤ g ∧ g ≤ 5) (hl : listR (2 * (32 / 2 ^ g.toNat)) s = .bad) (hs : s.length ≤ 1000000) : Ct Tryz.prog 32 [(b, .cells [.str s, X.x1, .int .i64 g, X.x3, X.x4, X.x5, X.x6, X.x7, X.x8, X.x9, X.x10] 59)] [.own 0 b 0] (gAll e) (Rs (fun _ : List UInt8 × Sli UInt64 => er e.cn) (fun z => [(b, .cells [.str z.1, X.x1, .int .i64 g, X.x3, X.x4, X.x5, .int .i64 2, .int .i64 (Int.fdiv 32 (2 ^ min g.toNat IntKind.i64.bits)), .raw (.slice none 0 0), X.x9, X.x10] 59)]) (fun z => [z.2.f encU 1]) (fun z => True)) := by
  refine Ct.post (Ct.of Tryz.func32 rfl (n := 46) rfl rfl rfl ?_)
  conv => whnf
  repeat' first
    | (show AR .i64 (2 * Int.fdiv 32 (2 ^ min g.toNat IntKind.i64.bits)) _; refine AR.i64 (fdG2 hg) ?_; conv => whnf)
    | (refine Ob.mk rfl ?_; conv => whnf)
    | (refine Nx.mk ?_; conv => whnf)
    | (show CallK _ _ 46 _ _ _ _; refine CallK.lendS [0] (c_rlistX b s ⟨X.x1, .int .i64 g, X.x3, X.x4, X.x5, .int .i64 2, .int .i64 (Int.fdiv 32 (2 ^ min g.toNat IntKind.i64.bits)), X.x8, X.x9, X.x10⟩ _ _ e .bad hl (by rw [fdG hg, Int.natCast_mul]; rfl) hs) ⟨rfl, trivial⟩ rfl rfl rfl (by repeat' (first | exact trivial | exact .head _ | apply List.Mem.tail | apply And.intro)) (fun z hz => ⟨rfl, Nx.go ?_⟩))
    | (show Post _ _ _ _ _; exact Rs.post z rfl (Imp.to 1 rfl (by repeat' (first | exact trivial | exact .head _ | apply List.Mem.tail | apply And.intro))) trivial)
    | (refine SemC.draw 1 [0] [.t 0, .m 1, .t 2, .t 3, .t 4, .t 5, .t 6, .m 7, .t 8, .t 9, .t 10, .t 11, .w 12, .t 13, .t 14, .t 15, .t 16, .l 17] (by kernel_rfl) (by kernel_rfl) ?_; conv => whnf)
    | (refine SemC.draw 2 [] [.t 0, .t 1, .t 2, .t 3, .t 4, .t 5, .t 6, .t 7, .t 8, .t 9, .t 10, .t 11, .t 12, .t 13, .l 14, .t 15, .t 16, .t 17, .t 18, .t 19] (by kernel_rfl) (by kernel_rfl) ?_; conv => whnf)
    | (show RdB _ _ _; refine RdB.mk' (by repeat (first | exact .head _ | apply List.Mem.tail)) (Nx.go ?_))
    | (refine AR.i64 (by omega) ?_; conv => whnf)
    | (refine AR.u64 (by omega) ?_; conv => whnf)
    | (refine AR.u8 (by omega) ?_; conv => whnf)
    | (refine Ob.mk (by omega) ?_; conv => whnf)

theorem c_cntO (b : Nat) (s : List UInt8) (X : X10) (g : Int) (e : Errs) (l : List UInt64) (q : List UInt8) (hg : 0 ≤ g ∧ g ≤ 5) (hl : listR (2 * (32 / 2 ^ g.toNat)) s = (.ok l q)) (hs : s.length ≤ 1000000) : Ct Tryz.prog 32 [(b, .cells [.str s, X.x1, .int .i64 g, X.x3, X.x4, X.x5, X.x6, X.x7, X.x8, X.x9, X.x10] 59)] [.own 0 b 0] (gAll e) (Rs (fun _ : List UInt8 × Sli UInt64 => .raw .nilIface) (fun z => [(b, .cells [.str z.1, X.x1, .int .i64 g, X.x3, X.x4, X.x5, .int .i64 2, .int .i64 (Int.fdiv 32 (2 ^ min g.toNat IntKind.i64.bits)), z.2.sv, X.x9, X.x10] 59)]) (fun z => [z.2.f encU 1]) (fun z => z.1 = q ∧ z.2.l = l)) := by
  refine Ct.post (Ct.of Tryz.func32 rfl (n := 46) rfl rfl rfl ?_)
  conv => whnf
  repeat' first
    | (show AR .i64 (2 * Int.fdiv 32 (2 ^ min g.toNat IntKind.i64.bits)) _; refine AR.i64 (fdG2 hg) ?_; conv => whnf)
    | (refine Ob.mk rfl ?_; conv => whnf)
    | (refine Nx.mk ?_; conv => whnf)
    | (show CallK _ _ 46 _ _ _ _; refine CallK.lendS [0] (c_rlistX b s ⟨X.x1, .int .i64 g, X.x3, X.x4, X.x5, .int .i64 2, .int .i64 (Int.fdiv 32 (2 ^ min g.toNat IntKind.i64.bits)), X.x8, X.x9, X.x10⟩ _ _ e (.ok l q) hl (by rw [fdG hg, Int.natCast_mul]; rfl) hs) ⟨rfl, trivial⟩ rfl rfl rfl (by repeat' (first | exact trivial | exact .head _ | apply List.Mem.tail | apply And.intro)) (fun z hz => ⟨rfl, Nx.go ?_⟩))
    | (show Post _ _ _ _ _; exact Rs.post z rfl (Imp.to 1 rfl (by repeat' (first | exact trivial | exact .head _ | apply List.Mem.tail | apply And.intro))) (hz _ _ rfl))
    | (refine SemC.draw 1 [0] [.t 0, .m 1, .t 2, .t 3, .t 4, .t 5, .t 6, .m 7, .t 8, .t 9, .t 10, .t 11, .w 12, .t 13, .t 14, .t 15, .t 16, .l 17] (by kernel_rfl) (by kernel_rfl) ?_; conv => whnf)
    | (refine SemC.draw 2 [] [.t 0, .t 1, .t 2, .t 3, .t 4, .t 5, .t 6, .t 7, .t 8, .t 9, .t 10, .t 11, .t 12, .t 13, .l 14, .t 15, .t 16, .t 17, .t 18, .t 19] (by kernel_rfl) (by kernel_rfl) ?_; conv => whnf)
    | (show RdB _ _ _; refine RdB.mk' (by repeat (first | exact .head _ | apply List.Mem.tail)) (Nx.go ?_))
    | (refine AR.i64 (by omega) ?_; conv => whnf)
    | (refine AR.u64 (by omega) ?_; conv => whnf)
    | (refine AR.u8 (by omega) ?_; conv => whnf)
    | (refine Ob.mk (by omega) ?_; conv => whnf)
end Go.Proofs.YtpdpajafaifcjaaGreatDoor

/- reader7 -/
namespace Go.Proofs.YtpdpajafaifcjaaGreatDoor
open Go.Proofs.YtpdpajafaifcjaaGreatDoor.W
set_option maxRecDepth 100000
set_option linter.unusedVariables false
/-- the bins that the numbers tell, from a place on -/
def binsV : Int → List UInt64 → List Bin
  | a, x :: y :: l => ⟨min (a + min (x.toNat : Int) 1000000) 1000000, y⟩ :: binsV (min (a + min (x.toNat : Int) 1000000) 1000000) l
  | _, _ => []
theorem binsV_two {a : Int} {l : List UInt64} {x y : UInt64} (hx : l[0]? = some x) (hy : l[1]? = some y) : binsV a l = ⟨min (a + min (x.toNat : Int) 1000000) 1000000, y⟩ :: binsV (min (a + min (x.toNat : Int) 1000000) 1000000) (l.drop 2) := by
  match l with
  | [] => cases hx
  | [x] => cases hy
  | u :: v :: l => cases hx; cases hy; rfl
theorem binsV_few {a : Int} {l : List UInt64} (h : l.length ≤ 1) : binsV a l = [] := by
  match l with
  | [] => rfl
  | [x] => rfl
  | u :: v :: l => simp at h
structure ValB where
  s : Sli UInt64
  b2 : Nat
  p : Option Addr
  n : Nat
  c : Nat
  l : List Bin
  a : Int

theorem c_val (b : Nat) (s : List UInt8) (X : X10) (g : Int) (e : Errs) (l : List UInt64) (q : List UInt8) (hg : 0 ≤ g ∧ g ≤ 5) (hl : cntR 1000 2 s = .ok l q) (hll : l.length ≤ 2000) (hs : s.length ≤ 1000000) : Ct Tryz.prog 33 [(b, .cells [.str s, X.x1, .int .i64 g, X.x3, X.x4, X.x5, X.x6, X.x7, X.x8, X.x9, .raw (.slice none 0 0)] 59)] [.own 0 b 0] (gAll e) (Rs (fun _ : Sli Bin => .raw .nilIface) (fun y => [(b, .cells [.str q, X.x1, .int .i64 g, X.x3, X.x4, X.x5, X.x6, X.x7, X.x8, .int .i64 (3 - g), y.sv] 59)]) (fun y => [y.f encBin 2]) (fun y => y.l = binsV 0 l)) := by
  refine Ct.post (Ct.of Tryz.func33 rfl (n := 58) rfl rfl rfl ?_)
  conv => whnf
  repeat' first
    | (show SemO _ _ (.buildSlice _ _ #[(0, .tmp 50)]) _ _ _ _ _; refine SemO.lit ?_; (conv => whnf); show BsV _ _ _ _ _; refine BsV.s [⟨min (ja + min (xe.toNat : Int) 1000000) 1000000, xe2⟩] (by repeat (first | exact .nil | refine .cons (by first | rfl | exact encB_of (by omega) | exact encU_U (by omega)) ?_)) (fun xo _ => okBin xo) (fun ys hys => Nx.go ?_))
    | (show SemO _ _ (.call ⟨.builtin .append, _, _⟩) _ _ _ _ _; refine SemO.appendVec ?_; (conv => whnf); refine Ob.mk ⟨rfl, rfl, rfl, rfl, rfl⟩ ?_)
    | (show AppV _ _ _ _ _ _ _ _ _ _ _ _ _ _; refine ⟨rfl, _, .fact (by repeat (first | exact .head _ | apply List.Mem.tail)), app_le (N := 1048576) ?_ (of_decide_eq_true (by kernel_rfl)), ?_, fun bv pv cv hcv => Nx.go ?_⟩)
    | (refine Ob.mk (by show (0 : Nat) < _; omega) ?_; conv => whnf)
    | (refine Ob.mk (by show (1 : Nat) < _; omega) ?_; conv => whnf)
    | (show RdE _ _ _ _ _ 0 _; refine RdE.s (by repeat (first | exact .head _ | apply List.Mem.tail)) (by show (0 : Nat) < _; omega) (fun xe hxe => Nx.go ?_))
    | (show RdE _ _ _ _ _ 1 _; refine RdE.s (by repeat (first | exact .head _ | apply List.Mem.tail)) (by show (1 : Nat) < _; omega) (fun xe2 hxe2 => Nx.go ?_))
    | (show SlW _ _ _ _ _ _ _ _ _; refine SlW.s (by repeat (first | exact .head _ | apply List.Mem.tail)) (by show (2 : Nat) ≤ _ ∧ _ ≤ _ ∧ _ ≤ _ ∧ (_ ≤ _ ∨ _ ≤ _); omega) (fun zs hzs hcs => Nx.go ?_))
    | (refine Ob.mk rfl ?_; conv => whnf)
    | (refine Nx.mk ?_; conv => whnf)
    | (refine BR.yes ?_; conv => whnf)
    | (refine BR.no ?_; conv => whnf)
    | (intro bk; conv => whnf)
    | (show CallK _ _ 45 _ _ _ _; refine CallK.lendS [0] (c_rcntX b s ⟨X.x1, .int .i64 g, X.x3, X.x4, X.x5, X.x6, X.x7, X.x8, .int .i64 (3 - g), .raw (.slice none 0 0)⟩ 1000 2 e (.ok l q) hl hs (by decide) (by decide) 2 rfl) ⟨rfl, trivial⟩ rfl rfl rfl (by repeat' (first | exact trivial | exact .head _ | apply List.Mem.tail | apply And.intro)) (fun z hz => ⟨rfl, Nx.go ?_⟩))
    | (show SemC _ _ _ (.loop (.seq (.seq (.region 4 _ _) _) _)) _ _ _ _ _; refine SemC.loopU (c := (.seq (.seq (.region 4 _ _) _) _)) (fun j : ValB => [(3, j.s.sv), (5, .int .u64 j.a)]) (fun j => [(b, .cells [.str z.1, X.x1, .int .i64 g, X.x3, X.x4, X.x5, X.x6, X.x7, X.x8, .int .i64 (3 - g), .vec 1 j.p j.n j.c] 59), (j.b2, .vec encBin 2 84 j.p j.n j.c j.l)]) (fun j => j.s.f encU 1 :: gAll e) (fun j => 0 ≤ j.a ∧ j.a ≤ 1000000 ∧ j.n = j.l.length ∧ 2 * j.l.length + j.s.l.length ≤ 2000 ∧ j.l ++ binsV j.a j.s.l = binsV 0 z.2.l) (fun j => j.s.l.length) ⟨z.2, 0, none, 0, 0, [], 0⟩ ?_; (conv => whnf); refine LoopQ.mk ?_ ⟨(by repeat (first | exact trivial | refine ⟨rfl, ?_⟩ | refine ⟨congrArg (Value.int _) (by omega), ?_⟩)), ((Imp.nilVec encBin 2 84).trans ((Imp.to 2 rfl (by repeat' (first | exact trivial | exact .head _ | apply List.Mem.tail | apply And.intro))).trans (Imp.recell 0 rfl rfl)))⟩ (fun j hi => ?_); rotate_left; obtain ⟨js, jb, jp, jn, jc, jl, ja⟩ := j; dsimp only at hi ⊢; rotate_left)
    | (show Exists _; refine Exists.intro (⟨zs, bv, pv, jn + ys.l.length, cv, jl ++ ys.l, min (ja + min (xe.toNat : Int) 1000000) 1000000⟩) ⟨?_, ?_, rfl, ⟨(by repeat (first | exact trivial | refine ⟨rfl, ?_⟩ | refine ⟨congrArg (Value.int _) (by omega), ?_⟩)), Imp.to 2 rfl (by repeat' (first | exact trivial | exact .head _ | apply List.Mem.tail | apply And.intro))⟩⟩)
    | (show Post _ _ _ _ _; obtain ⟨hz1, hz2⟩ := hz _ _ rfl; subst hz1; exact Rs.post ⟨jl, jp, jc⟩ rfl (((Imp.pubS 1 rfl hi.2.2.1.symm).trans (Imp.recell 0 rfl (by rw [hi.2.2.1]; rfl))).trans (Imp.to 1 rfl (by repeat' (first | exact trivial | exact .head _ | apply List.Mem.tail | apply And.intro)))) (by show jl = _; have h5 := hi.2.2.2.2; rw [binsV_few (by omega), List.append_nil] at h5; rw [h5, hz2]))
    | (refine SemC.draw 7 [1] [.m 0, .t 1, .t 2, .t 3, .t 4, .t 5, .t 6, .t 7, .t 8, .t 9, .t 10, .t 11, .t 12, .s 13, .w 14, .t 15, .t 16, .t 17, .t 18, .l 19] (by kernel_rfl) (by kernel_rfl) ?_; conv => whnf)
    | (refine Idx.nat ?_; conv => whnf)
    | (refine Idx.is _ rfl ?_; conv => whnf)
    | (show HasP _ _ _ _ _ _; refine HasP.mk' (by repeat (first | exact .head _ | apply List.Mem.tail)) (Nx.go ?_))
    | (show RdE _ _ _ _ _ _ _; refine RdE.s (by repeat (first | exact .head _ | apply List.Mem.tail)) (by omega) (fun xe hxe => Nx.go ?_))
    | (show RdB _ _ _; refine RdB.mk' (by repeat (first | exact .head _ | apply List.Mem.tail)) (Nx.go ?_))
    | (show SlW _ _ _ _ _ _ _ _ _; refine SlW.s (by repeat (first | exact .head _ | apply List.Mem.tail)) (by omega) (fun ys hys hcs => Nx.go ?_))
    | (refine AR.i64 (by omega) ?_; conv => whnf)
    | (refine AR.u64 (by omega) ?_; conv => whnf)
    | (refine AR.u8 (by omega) ?_; conv => whnf)
    | (refine Ob.mk (by omega) ?_; conv => whnf)
    | (refine BR.mk (fun h => ?_) (fun h => ?_) <;> (first | rw [Bool.not_eq_true'] at h | rw [Bool.not_eq_false'] at h | skip) <;> (try rw [h]) <;> (first | replace h := of_decide_eq_true h | replace h := of_decide_eq_false h | replace h := eq_of_beq h | replace h := bne_iff_ne.1 h | replace h := beq_eq_false_iff_ne.1 h | replace h := bne_eq_false_iff_eq.1 h | skip) <;> conv => whnf)
  · exact ⟨Int.le_refl 0, (by decide : (0:Int) ≤ 1000000), rfl, by have := (hz _ _ rfl).2; simp only [List.length_nil]; rw [this]; omega, rfl⟩
  all_goals (try (show _ ≤ _; rw [hys]; simp only [List.length_singleton]; omega))
  all_goals (rw [List.take_length] at hzs; have hl2 : zs.l.length = js.l.length - 2 := by rw [hzs, List.length_drop])
  · obtain ⟨h1, h2, h3, h4, h5⟩ := hi
    refine ⟨?_, ?_, ?_, ?_, ?_⟩
    · show (0 : Int) ≤ min _ _; omega
    · show min _ _ ≤ (1000000 : Int); omega
    · show jn + _ = (jl ++ _).length; rw [List.length_append]; omega
    · show 2 * (jl ++ _).length + zs.l.length ≤ 2000; rw [List.length_append, hys, List.length_singleton]; omega
    · show (jl ++ ys.l) ++ binsV _ zs.l = _; rw [hys, hzs, List.append_assoc, ← h5, binsV_two hxe hxe2]; rfl
  · show zs.l.length < js.l.length; omega

theorem c_valM (b : Nat) (s : List UInt8) (X : X10) (g : Int) (e : Errs) (hg : 0 ≤ g ∧ g ≤ 5) (hl : cntR 1000 2 s = .more) (hs : s.length ≤ 1000000) : Ct Tryz.prog 33 [(b, .cells [.str s, X.x1, .int .i64 g, X.x3, X.x4, X.x5, X.x6, X.x7, X.x8, X.x9, .raw (.slice none 0 0)] 59)] [.own 0 b 0] (gAll e) (Rs (fun _ : List UInt8 => er e.cm) (fun r => [(b, .cells [.str r, X.x1, .int .i64 g, X.x3, X.x4, X.x5, X.x6, X.x7, X.x8, .int .i64 (3 - g), .raw (.slice none 0 0)] 59)]) (fun _ => []) (fun _ => True)) := by
  refine Ct.post (Ct.of Tryz.func33 rfl (n := 58) rfl rfl rfl ?_)
  conv => whnf
  repeat' first
    | (refine Ob.mk rfl ?_; conv => whnf)
    | (refine Nx.mk ?_; conv => whnf)
    | (refine BR.yes ?_; conv => whnf)
    | (refine BR.no ?_; conv => whnf)
    | (intro bk; conv => whnf)
    | (show CallK _ _ 45 _ _ _ _; refine CallK.lendS [0] (c_rcntX b s ⟨X.x1, .int .i64 g, X.x3, X.x4, X.x5, X.x6, X.x7, X.x8, .int .i64 (3 - g), .raw (.slice none 0 0)⟩ 1000 2 e .more hl hs (by decide) (by decide) 2 rfl) ⟨rfl, trivial⟩ rfl rfl rfl (by repeat' (first | exact trivial | exact .head _ | apply List.Mem.tail | apply And.intro)) (fun z hz => ⟨rfl, Nx.go ?_⟩))
    | (show SemC _ _ _ (.loop (.seq (.seq (.region 4 _ _) _) _)) _ _ _ _ _; refine SemC.loopC (c := (.seq (.seq (.region 4 _ _) _) _)) (fun j : Nat => [(3, .raw (.slice none 0 0)), (5, .int .u64 0)]) (fun j => j = 0) (fun j => 0) 0 ?_; (conv => whnf); refine LoopQ.mk ?_ ⟨(by repeat (first | exact trivial | refine ⟨rfl, ?_⟩ | refine ⟨congrArg (Value.int _) (by omega), ?_⟩)), Imp.refl⟩ (fun j hi => ?_))
    | (show Post _ _ _ _ _; exact Rs.post z.1 rfl (Imp.to 1 rfl (by repeat' (first | exact trivial | exact .head _ | apply List.Mem.tail | apply And.intro))) trivial)
    | (refine SemC.draw 7 [] [.m 0, .t 1, .t 2, .t 3, .t 4, .t 5, .t 6, .t 7, .t 8, .t 9, .t 10, .t 11, .t 12, .s 13, .w 14, .t 15, .t 16, .t 17, .t 18, .l 19] (by kernel_rfl) (by kernel_rfl) ?_; conv => whnf)
    | (refine Idx.nat ?_; conv => whnf)
    | (refine Idx.is _ rfl ?_; conv => whnf)
    | (show HasP _ _ _ _ _ _; refine HasP.mk' (by repeat (first | exact .head _ | apply List.Mem.tail)) (Nx.go ?_))
    | (show RdE _ _ _ _ _ _ _; refine RdE.s (by repeat (first | exact .head _ | apply List.Mem.tail)) (by omega) (fun xe hxe => Nx.go ?_))
    | (show RdB _ _ _; refine RdB.mk' (by repeat (first | exact .head _ | apply List.Mem.tail)) (Nx.go ?_))
    | (show SlW _ _ _ _ _ _ _ _ _; refine SlW.s (by repeat (first | exact .head _ | apply List.Mem.tail)) (by omega) (fun ys hys hcs => Nx.go ?_))
    | (refine AR.i64 (by omega) ?_; conv => whnf)
    | (refine AR.u64 (by omega) ?_; conv => whnf)
    | (refine AR.u8 (by omega) ?_; conv => whnf)
    | (refine Ob.mk (by omega) ?_; conv => whnf)
    | (refine BR.mk (fun h => ?_) (fun h => ?_) <;> (first | rw [Bool.not_eq_true'] at h | rw [Bool.not_eq_false'] at h | skip) <;> (try rw [h]) <;> (first | replace h := of_decide_eq_true h | replace h := of_decide_eq_false h | replace h := eq_of_beq h | replace h := bne_iff_ne.1 h | replace h := beq_eq_false_iff_ne.1 h | replace h := bne_eq_false_iff_eq.1 h | skip) <;> conv => whnf)
  rfl

theorem c_valB (b : Nat) (s : List UInt8) (X : X10) (g : Int) (e : Errs) (hg : 0 ≤ g ∧ g ≤ 5) (hl : cntR 1000 2 s = .bad) (hs : s.length ≤ 1000000) : Ct Tryz.prog 33 [(b, .cells [.str s, X.x1, .int .i64 g, X.x3, X.x4, X.x5, X.x6, X.x7, X.x8, X.x9, .raw (.slice none 0 0)] 59)] [.own 0 b 0] (gAll e) (Rs (fun _ : List UInt8 => er e.cn) (fun r => [(b, .cells [.str r, X.x1, .int .i64 g, X.x3, X.x4, X.x5, X.x6, X.x7, X.x8, .int .i64 (3 - g), .raw (.slice none 0 0)] 59)]) (fun _ => []) (fun _ => True)) := by
  refine Ct.post (Ct.of Tryz.func33 rfl (n := 58) rfl rfl rfl ?_)
  conv => whnf
  repeat' first
    | (refine Ob.mk rfl ?_; conv => whnf)
    | (refine Nx.mk ?_; conv => whnf)
    | (refine BR.yes ?_; conv => whnf)
    | (refine BR.no ?_; conv => whnf)
    | (intro bk; conv => whnf)
    | (show CallK _ _ 45 _ _ _ _; refine CallK.lendS [0] (c_rcntX b s ⟨X.x1, .int .i64 g, X.x3, X.x4, X.x5, X.x6, X.x7, X.x8, .int .i64 (3 - g), .raw (.slice none 0 0)⟩ 1000 2 e .bad hl hs (by decide) (by decide) 2 rfl) ⟨rfl, trivial⟩ rfl rfl rfl (by repeat' (first | exact trivial | exact .head _ | apply List.Mem.tail | apply And.intro)) (fun z hz => ⟨rfl, Nx.go ?_⟩))
    | (show SemC _ _ _ (.loop (.seq (.seq (.region 4 _ _) _) _)) _ _ _ _ _; refine SemC.loopC (c := (.seq (.seq (.region 4 _ _) _) _)) (fun j : Nat => [(3, .raw (.slice none 0 0)), (5, .int .u64 0)]) (fun j => j = 0) (fun j => 0) 0 ?_; (conv => whnf); refine LoopQ.mk ?_ ⟨(by repeat (first | exact trivial | refine ⟨rfl, ?_⟩ | refine ⟨congrArg (Value.int _) (by omega), ?_⟩)), Imp.refl⟩ (fun j hi => ?_))
    | (show Post _ _ _ _ _; exact Rs.post z.1 rfl (Imp.to 1 rfl (by repeat' (first | exact trivial | exact .head _ | apply List.Mem.tail | apply And.intro))) trivial)
    | (refine SemC.draw 7 [] [.m 0, .t 1, .t 2, .t 3, .t 4, .t 5, .t 6, .t 7, .t 8, .t 9, .t 10, .t 11, .t 12, .s 13, .w 14, .t 15, .t 16, .t 17, .t 18, .l 19] (by kernel_rfl) (by kernel_rfl) ?_; conv => whnf)
    | (refine Idx.nat ?_; conv => whnf)
    | (refine Idx.is _ rfl ?_; conv => whnf)
    | (show HasP _ _ _ _ _ _; refine HasP.mk' (by repeat (first | exact .head _ | apply List.Mem.tail)) (Nx.go ?_))
    | (show RdE _ _ _ _ _ _ _; refine RdE.s (by repeat (first | exact .head _ | apply List.Mem.tail)) (by omega) (fun xe hxe => Nx.go ?_))
    | (show RdB _ _ _; refine RdB.mk' (by repeat (first | exact .head _ | apply List.Mem.tail)) (Nx.go ?_))
    | (show SlW _ _ _ _ _ _ _ _ _; refine SlW.s (by repeat (first | exact .head _ | apply List.Mem.tail)) (by omega) (fun ys hys hcs => Nx.go ?_))
    | (refine AR.i64 (by omega) ?_; conv => whnf)
    | (refine AR.u64 (by omega) ?_; conv => whnf)
    | (refine AR.u8 (by omega) ?_; conv => whnf)
    | (refine Ob.mk (by omega) ?_; conv => whnf)
    | (refine BR.mk (fun h => ?_) (fun h => ?_) <;> (first | rw [Bool.not_eq_true'] at h | rw [Bool.not_eq_false'] at h | skip) <;> (try rw [h]) <;> (first | replace h := of_decide_eq_true h | replace h := of_decide_eq_false h | replace h := eq_of_beq h | replace h := bne_iff_ne.1 h | replace h := beq_eq_false_iff_ne.1 h | replace h := bne_eq_false_iff_eq.1 h | skip) <;> conv => whnf)
  rfl
end Go.Proofs.YtpdpajafaifcjaaGreatDoor

/- ladder -/
namespace Go.Proofs.YtpdpajafaifcjaaGreatDoor
open Go.Proofs.YtpdpajafaifcjaaGreatDoor.W
set_option maxRecDepth 100000
set_option linter.unusedVariables false
/-- a kind's greatest level -/
def botI (k : Int) : Int := if k = 1 then 4 else if k = 2 then 3 else if k = 3 then 3 else -1

theorem c_bot (k : Int) : Ct Tryz.prog 35 [] [.int .i64 k] [] (Rv (.int .i64 (botI k))) := by
  refine Ct.of Tryz.func35 rfl (n := 15) rfl rfl rfl ?_
  conv => whnf
  repeat' first
    | (show SemO _ _ (.makeMap _ _) _ _ _ _ _; refine SemO.makeMap (κ := Int) (Value.int .i64) ?_; conv => whnf)
    | (show SemO _ _ (.insert _ _ _ _) _ _ _ _ _; refine SemO.insert (κ := Int) ?_ _ (Or.inl rfl); (conv => whnf); refine ⟨inferInstance, KeyLaw.int rfl, KeyIs.int (Ob.mk ⟨rfl, rfl⟩ ?_)⟩; intro L1 hL1; subst hL1; conv => whnf)
    | (show SemO _ _ (.lookup _ _ _ _) _ _ _ _ _; refine SemO.lookup ?_; (conv => whnf); refine ⟨inferInstance, KeyLaw.int rfl, KeyIs.int (Ob.mk rfl ?_)⟩; conv => whnf)
    | (refine Ob.mk rfl ?_; conv => whnf)
    | (refine Nx.mk ?_; conv => whnf)
    | (refine BR.yes ?_; conv => whnf)
    | (refine BR.no ?_; conv => whnf)
    | (intro bk; conv => whnf)
    | (refine AR.i64 (by omega) ?_; conv => whnf)
    | (refine AR.u64 (by omega) ?_; conv => whnf)
    | (refine AR.u8 (by omega) ?_; conv => whnf)
    | (refine Ob.mk (by omega) ?_; conv => whnf)
    | (refine BR.mk (fun h => ?_) (fun h => ?_) <;> (first | rw [Bool.not_eq_true'] at h | rw [Bool.not_eq_false'] at h | skip) <;> (try rw [h]) <;> (first | replace h := of_decide_eq_true h | replace h := of_decide_eq_false h | replace h := eq_of_beq h | replace h := bne_iff_ne.1 h | replace h := beq_eq_false_iff_ne.1 h | replace h := bne_eq_false_iff_eq.1 h | skip) <;> conv => whnf)
  all_goals grind [resS, botI]
end Go.Proofs.YtpdpajafaifcjaaGreatDoor
