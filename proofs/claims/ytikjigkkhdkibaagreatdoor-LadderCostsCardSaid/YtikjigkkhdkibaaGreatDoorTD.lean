/- YtikjigkkhdkibaaGreatDoorTD: a part of the proofs of given statements of this seat; no condition beyond them. -/
import Derived.Test.YtikjigkkhdkibaaGreatDoorTC
import Derived.Test.YtikjigkkhdkibaaGreatDoorWC
set_option linter.unusedVariables false
/- ladder: M18 -/
namespace Go.Proofs.YtikjigkkhdkibaaGreatDoor
open Go.Proofs.YtikjigkkhdkibaaGreatDoor.W
set_option maxRecDepth 100000
set_option linter.unusedVariables false
theorem c_grT (f : Int) (x : Sli Bin) (h : histRight f x.l = true) : Ct Tryz.prog 110 [] [.agg [.int .i64 f, x.sv]] [x.f encBin 2] (Rv (.bool true)) := h ▸ c_histRight f x
def InG (l : List Bin) : Prop := ∀ x ∈ l, 0 ≤ x.at_ ∧ x.at_ < 10000
theorem bOk_in {f : Nat} (hf : f ≤ 3) {a : Int} (h : bOk f a = true) : 0 ≤ a ∧ a < 10000 := by
  simp only [bOk, Bool.and_eq_true, decide_eq_true_eq] at h
  obtain ⟨⟨_, h1, h2⟩, _⟩ := h
  rw [pw_nat hf] at h2
  have hp := pow_f hf
  have e : W64 (64 * ((2 ^ f : Nat) : Int)) = 64 * ((2 ^ f : Nat) : Int) := IntWalk.i64_in _ (by omega)
  rw [e] at h2
  omega
theorem hOk_right {f : Int} {l : List Bin} {last : Int} (h : hOk f last l = true) : RightG l ∧ (∀ x ∈ l, bOk f x.at_ = true) ∧ ∀ x ∈ l, last < x.at_ := by
  induction l generalizing last with
  | nil => exact ⟨⟨by simp, by simp⟩, by simp, by simp⟩
  | cons x l ih =>
    simp only [hOk, Bool.and_eq_true, decide_eq_true_eq] at h
    obtain ⟨⟨⟨h1, h2⟩, h3⟩, h4⟩ := h
    obtain ⟨g1, g2, g3⟩ := ih h4
    refine ⟨⟨List.pairwise_cons.2 ⟨g3, g1.rise⟩, fun b hb => ?_⟩, fun y hy => ?_, fun y hy => ?_⟩
    · rcases List.mem_cons.1 hb with rfl | hb
      · exact h2
      · exact g1.some_ b hb
    · rcases List.mem_cons.1 hy with rfl | hy
      · exact h1
      · exact g2 y hy
    · rcases List.mem_cons.1 hy with rfl | hy
      · exact h3
      · exact Int.lt_trans h3 (g3 y hy)
theorem histR {f : Nat} {l : List Bin} (h : histRight f l = true) : f ≤ 3 ∧ RightG l ∧ InG l ∧ l.length ≤ 10000 := by
  simp only [histRight, isFine, Bool.and_eq_true, decide_eq_true_eq] at h
  obtain ⟨h1, h2⟩ := h
  obtain ⟨g1, g2, g3⟩ := hOk_right h2
  have hf : f ≤ 3 := by omega
  have hi : InG l := fun x hx => bOk_in hf (g2 x hx)
  have := g1.len hi (by omega)
  exact ⟨hf, g1, hi, by omega⟩
theorem putsG_nil {l : List Bin} (h : RightG l) : putsG [] l = l := by
  have h0 : RightG ([] : List Bin) := ⟨by simp, by simp⟩
  refine (putsG_right h0 l).ext h fun b => ?_
  rw [look_puts h0 h, show lookG [] b = 0 from rfl, Nat.zero_add]
  by_cases e : lookG l b = 0
  · rw [e]; rfl
  · obtain ⟨x, hx, rfl⟩ := look_pos e
    rw [look_some h hx, capN_u]
theorem MapOf.of {l : List Bin} (h : RightG l) : MapOf (addsM [] l) l := by
  have := MapOf.nil.adds l
  rwa [putsG_nil h] at this
theorem addsM_snoc {M : MapU} {l : List Bin} {i : Nat} {x : Bin} (h : l[i]? = some x) : addsM M (l.take (i + 1)) = addM (addsM M (l.take i)) x.at_ x.n := by
  rw [take_snoc h, addsM, List.foldl_append]; rfl
theorem getM_put (M : MapU) (k : Int) (u : UInt64) : getM (putM M k u) k = u := by
  induction M with
  | nil => simp [putM, getM]
  | cons a M ih =>
    obtain ⟨k', v⟩ := a
    rw [putM]
    split
    · rw [getM, if_pos rfl]
    · rename_i e; rw [getM, if_neg e]; exact ih
theorem addM_zero {M : MapU} {k : Int} {n : UInt64} (h : ((getM (putM M k (satP (getM M k) n)) k).toNat : Int) = 0) : addM M k n = delM (putM M k (satP (getM M k) n)) k := by
  rw [getM_put, u64_zero] at h
  rw [addM, if_pos h]
theorem addM_some {M : MapU} {k : Int} {n : UInt64} (h : ¬ ((getM (putM M k (satP (getM M k) n)) k).toNat : Int) = 0) : addM M k n = putM M k (satP (getM M k) n) := by
  rw [getM_put, u64_zero] at h
  rw [addM, if_neg h]

theorem c_gadd (mb wb : Nat) (f : Int) (M : MapU) (x : Sli Bin) : Ct Tryz.prog 271 [(mb, .map (Value.int .i64) (encM M))] [.raw (.pointer (some ⟨wb, 0, none⟩)), x.sv] [blkF wb [.mp 0 mb, .int .i64 f] 337, x.f encBin 2] (Rs (fun _ : Unit => .tup []) (fun _ => [(mb, .map (Value.int .i64) (encM (addsM M x.l)))]) (fun _ => []) (fun _ => True)) := by
  refine Ct.len (enc := encBin) (L := x.l) (List.Mem.tail _ (List.Mem.head _)) fun hl => ?_
  refine Ct.post (Ct.of Tryz.func271 rfl (n := 44) rfl rfl rfl ?_)
  conv => whnf
  repeat' first
    | (show SemO _ _ (.buildSlice _ _ #[(0, .tmp 24), (1, .tmp 26)]) _ _ _ _ _; refine SemO.lit ?_; (conv => whnf); show BsV _ _ _ _ _; refine BsV.s [getM m xe.at_, xe.n] (by repeat (first | exact .nil | refine .cons (by first | rfl | exact encB_of (by omega) | exact encU_U (by omega)) ?_)) (fun xo _ => okU xo) (fun ys hys => Nx.go ?_))
    | (show SemO _ _ (.makeMap _ _) _ _ _ _ _; refine SemO.makeMap (κ := Int) (Value.int .i64) ?_; conv => whnf)
    | (show SemO _ _ (.lookup _ _ _ _) _ _ _ _ _; refine SemO.lookup ?_; (conv => whnf); refine ⟨inferInstance, KeyLaw.int rfl, KeyIs.int (Ob.mk rfl (mlookU ?_ (fun h => h)))⟩; conv => whnf)
    | (show SemO _ _ (.mapUpdate _ _ _ _) _ _ _ _ _; refine SemO.insert (κ := Int) ?_ _ (Or.inr rfl); (conv => whnf); refine ⟨inferInstance, KeyLaw.int rfl, KeyIs.int (Ob.mk ⟨rfl, rfl⟩ ?_)⟩; intro L1 hL1; obtain rfl := hL1.trans (mput_encM _ _ (satP (getM m xe.at_) xe.n)); conv => whnf)
    | (show SemO _ _ (.call ⟨.builtin .delete, _, _⟩) _ _ _ _ _; refine SemO.delete ?_; (conv => whnf); refine ⟨inferInstance, KeyLaw.int rfl, KeyIs.int (Ob.mk ⟨rfl, rfl⟩ ?_)⟩; intro L1 hL1; obtain rfl := hL1.trans (mdel_encM _ _); conv => whnf)
    | (have hz := addM_zero h; show Exists _; refine Exists.intro (i + 1, delM (putM m xe.at_ (satP (getM m xe.at_) xe.n)) xe.at_) ⟨?_, ?_, rfl, ⟨(by repeat (first | exact trivial | refine ⟨rfl, ?_⟩ | refine ⟨congrArg (Value.int _) (by omega), ?_⟩)), Imp.to 1 rfl (by repeat' (first | exact trivial | exact .head _ | apply List.Mem.tail | apply And.intro))⟩⟩)
    | (have hz := addM_some h; show Exists _; refine Exists.intro (i + 1, putM m xe.at_ (satP (getM m xe.at_) xe.n)) ⟨?_, ?_, rfl, ⟨(by repeat (first | exact trivial | refine ⟨rfl, ?_⟩ | refine ⟨congrArg (Value.int _) (by omega), ?_⟩)), Imp.to 1 rfl (by repeat' (first | exact trivial | exact .head _ | apply List.Mem.tail | apply And.intro))⟩⟩)
    | (refine Ob.mk rfl ?_; conv => whnf)
    | (refine Nx.mk ?_; conv => whnf)
    | (refine BR.yes ?_; conv => whnf)
    | (refine BR.no ?_; conv => whnf)
    | (intro bk; conv => whnf)
    | (show CallK _ _ 274 _ _ _ _; refine CallK.rv (c_gplus ys (getM m xe.at_) xe.n hys) (by repeat' (first | exact trivial | exact .head _ | apply List.Mem.tail | apply And.intro)) (Nx.go ?_))
    | (show SemC _ _ _ (.loop (.seq (.region 1 _ _) _)) _ _ _ _ _; refine SemC.loopB (c := (.seq (.region 1 _ _) _)) (fun j : Nat × MapU => [(8, .int .i64 j.1)]) (fun j => [(mb, .map (Value.int .i64) (encM j.2))]) (fun j => j.1 ≤ x.l.length ∧ j.2 = addsM M (x.l.take j.1)) (fun j => x.l.length - j.1) (0, M) ?_; (conv => whnf); refine LoopQ.mk ?_ ⟨(by repeat (first | exact trivial | refine ⟨rfl, ?_⟩ | refine ⟨congrArg (Value.int _) (by omega), ?_⟩)), Imp.refl⟩ (fun j hi => ?_); rotate_left; obtain ⟨i, m⟩ := j; dsimp only at hi ⊢; rotate_left)
    | (show Post _ _ _ _ _; have h9 := hi.2; rw [List.take_of_length_le (by omega)] at h9; subst h9; exact Rs.post () rfl (Imp.to 1 rfl (by repeat' (first | exact trivial | exact .head _ | apply List.Mem.tail | apply And.intro))) trivial)
    | (refine SemC.draw 3 [] [.t 0, .t 1, .t 2, .t 3, .t 4, .t 5, .t 6, .t 7, .t 8, .t 9, .t 10, .t 11, .t 13, .t 14, .s 12, .s 15, .s 16, .l 17] (by kernel_rfl) (by kernel_rfl) ?_; conv => whnf)
    | (refine SemC.draw 4 [] [.t 0, .t 1, .t 2, .t 3, .t 4, .t 5, .l 6, .t 7] (by kernel_rfl) (by kernel_rfl) ?_; conv => whnf)
    | (refine SemC.draw 5 [] [.t 0, .t 1, .t 2, .t 3, .t 4, .t 5, .l 6] (by kernel_rfl) (by kernel_rfl) ?_; conv => whnf)
    | (refine Idx.nat ?_; conv => whnf)
    | (refine Idx.is _ rfl ?_; conv => whnf)
    | (show HasP _ _ _ _ _ _; refine HasP.mk' (by repeat (first | exact .head _ | apply List.Mem.tail)) (Nx.go ?_))
    | (show RdE _ _ _ _ _ _ _; refine RdE.s (by repeat (first | exact .head _ | apply List.Mem.tail)) (by omega) (fun xe hxe => Nx.go ?_))
    | (show RdB _ _ _; refine RdB.mk' (by repeat (first | exact .head _ | apply List.Mem.tail)) (Nx.go ?_))
    | (refine AR.i64 (by omega) ?_; conv => whnf)
    | (refine AR.u64 (by omega) ?_; conv => whnf)
    | (refine AR.u8 (by omega) ?_; conv => whnf)
    | (refine Ob.mk (by omega) ?_; conv => whnf)
    | (refine BR.mk (fun h => ?_) (fun h => ?_) <;> (first | rw [Bool.not_eq_true'] at h | rw [Bool.not_eq_false'] at h | skip) <;> (try rw [h]) <;> (first | replace h := of_decide_eq_true h | replace h := of_decide_eq_false h | replace h := eq_of_beq h | replace h := bne_iff_ne.1 h | replace h := beq_eq_false_iff_ne.1 h | replace h := bne_eq_false_iff_eq.1 h | skip) <;> conv => whnf)
  · exact ⟨Nat.zero_le _, by simp [addsM]⟩
  · exact ⟨by dsimp only; omega, by show delM _ _ = addsM M (x.l.take (i + 1)); rw [addsM_snoc hxe, ← hi.2, hz]⟩
  · dsimp only; omega
  · exact ⟨by dsimp only; omega, by show putM _ _ _ = addsM M (x.l.take (i + 1)); rw [addsM_snoc hxe, ← hi.2, hz]⟩
  · dsimp only; omega
end Go.Proofs.YtikjigkkhdkibaaGreatDoor

/- ladder: M19 -/
namespace Go.Proofs.YtikjigkkhdkibaaGreatDoor
open Go.Proofs.YtikjigkkhdkibaaGreatDoor.W
set_option maxRecDepth 100000
set_option linter.unusedVariables false
structure GJ where
  i : Nat
  b : Nat
  p : Option Addr
  n : Nat
  c : Nat
  l : List Bin
def GJI (l : List Bin) (j : GJ) : Prop := j.i ≤ l.length ∧ j.n = j.l.length ∧ j.l = l.take j.i
theorem len_at {l : List Bin} {z : List Int} (hz : z = l.map (·.at_)) : z.length = l.length := by rw [hz, List.length_map]
theorem GJI.step {M : MapU} {l : List Bin} (hM : MapOf M l) {z : List Int} (hz : z = l.map (·.at_)) {i b3 jn jc : Nat} {jp : Option Addr} {jl : List Bin} (hi : GJI l ⟨i, b3, jp, jn, jc, jl⟩) {xe : Int} (hxe : z[i]? = some xe) {ys : List Bin} (hys : ys = [⟨xe, getM M xe⟩]) (bv : Nat) (pv : Option Addr) (cv : Nat) :
    GJI l ⟨i + 1, bv, pv, jn + ys.length, cv, jl ++ ys⟩ := by
  have hlt := (List.getElem?_eq_some_iff.1 hxe).1
  have hzl : z.length = l.length := len_at hz
  rw [hz, List.getElem?_map] at hxe
  obtain ⟨x, hx, rfl⟩ := Option.map_eq_some_iff.1 hxe
  obtain ⟨h1, h2, h3⟩ := hi
  dsimp only at h1 h2 h3
  refine ⟨by dsimp only; omega, by dsimp only; rw [List.length_append, h2], ?_⟩
  dsimp only
  rw [h3, take_snoc hx, hys, hM.bin (List.mem_of_getElem? hx)]
theorem GJI.len {l : List Bin} (hle : l.length ≤ 10000) {i b3 jn jc : Nat} {jp : Option Addr} {jl : List Bin} (hi : GJI l ⟨i, b3, jp, jn, jc, jl⟩) : jn ≤ 10000 := by
  obtain ⟨h1, h2, h3⟩ := hi
  dsimp only at h1 h2 h3
  rw [h2, h3, List.length_take]; omega
theorem at_inv {l : List Bin} {z : List Int} (hz : z = l.map (·.at_)) {i : Nat} {k : Int} (h : z[i]? = some k) : ∃ x, l[i]? = some x ∧ k = x.at_ := by
  rw [hz, List.getElem?_map] at h
  obtain ⟨x, hx, rfl⟩ := Option.map_eq_some_iff.1 h
  exact ⟨x, hx, rfl⟩

theorem c_gend (mb wb : Nat) (f : Int) (M : MapU) (l : List Bin) (hM : MapOf M l) (hr : InG l) (hle : l.length ≤ 10000) : Ct Tryz.prog 272 [(mb, .map (Value.int .i64) (encM M))] [.raw (.pointer (some ⟨wb, 0, none⟩))] [blkF wb [.mp 0 mb, .int .i64 f] 337] (Rs (fun y : Sli Bin => .agg [.int .i64 f, y.sv]) (fun _ => [(mb, .map (Value.int .i64) (encM M))]) (fun y => [y.f encBin 2]) (fun y => y.l = l)) := by
  refine Ct.post (Ct.of Tryz.func272 rfl (n := 37) rfl rfl rfl ?_)
  conv => whnf
  repeat' first
    | (show SemO _ _ (.buildSlice _ _ #[(0, .tmp 31)]) _ _ _ _ _; refine SemO.lit ?_; (conv => whnf); show BsV _ _ _ _ _; refine BsV.s [⟨xe, getM M xe⟩] (by repeat (first | exact .nil | refine .cons (by first | rfl | exact encB_of (by omega) | exact encU_U (by omega)) ?_)) (fun xo _ => okBin xo) (fun ys hys => Nx.go ?_))
    | (show SemO _ _ (.makeMap _ _) _ _ _ _ _; refine SemO.makeMap (κ := Int) (Value.int .i64) ?_; conv => whnf)
    | (show SemO _ _ (.lookup _ _ _ _) _ _ _ _ _; refine SemO.lookup ?_; (conv => whnf); refine ⟨inferInstance, KeyLaw.int rfl, KeyIs.int (Ob.mk rfl (mlookU ?_ (fun h => h)))⟩; conv => whnf)
    | (show SemO _ _ (.call ⟨.builtin .append, _, _⟩) _ _ _ _ _; refine SemO.appendVec ?_; (conv => whnf); refine Ob.mk ⟨rfl, rfl, rfl, rfl, rfl⟩ ?_)
    | (show AppV _ _ _ _ _ _ _ _ _ _ _ _ _ _; refine ⟨rfl, _, .fact (by repeat (first | exact .head _ | apply List.Mem.tail)), app_le (N := 1048576) ?_ (of_decide_eq_true (by kernel_rfl)), ?_, fun bv pv cv hcv => Nx.go ?_⟩)
    | (have hzl := len_at hz; show AR .i64 (_ + 1) _; refine AR.i64 (by omega) ?_; conv => whnf)
    | (refine Ob.mk rfl ?_; conv => whnf)
    | (refine Nx.mk ?_; conv => whnf)
    | (refine BR.yes ?_; conv => whnf)
    | (refine BR.no ?_; conv => whnf)
    | (intro bk; conv => whnf)
    | (show CallK _ _ 276 _ _ _ _; refine CallK.rfP Imp.refl (c_keys mb) rfl trivial (fun bx hbx => Nx.go ?_))
    | (show CallK _ _ 275 _ _ _ _; refine CallK.lendS [0] (c_srt mb bx M l hM hr) ⟨rfl, trivial⟩ rfl rfl rfl (by repeat' (first | exact trivial | exact .head _ | apply List.Mem.tail | apply And.intro)) (fun z hz => ⟨rfl, Nx.go ?_⟩))
    | (show SemC _ _ _ (.loop (.seq (.region 3 _ _) _)) _ _ _ _ _; refine SemC.loopN (c := (.seq (.region 3 _ _) _)) (fun j : GJ => [(18, .int .i64 j.i)]) (fun lb j => setCells (lb ++ [(j.b, .vec encBin 2 142 j.p j.n j.c j.l)]) 2 [.int .i64 f, .vec 3 j.p j.n j.c]) (fun j => GJI l j) (fun j => l.length - j.i) ⟨0, 0, none, 0, 0, []⟩ ?_; (conv => whnf); refine LoopQ.mk ?_ ⟨(by repeat (first | exact trivial | refine ⟨rfl, ?_⟩ | refine ⟨congrArg (Value.int _) (by omega), ?_⟩)), (Imp.trans (Imp.nilVec encBin 2 142) (Imp.recell (cs' := [.int .i64 f, .vec 3 none 0 0]) 2 rfl rfl))⟩ (fun j hi => ?_); rotate_left; obtain ⟨i, b3, jp, jn, jc, jl⟩ := j; dsimp only at hi ⊢; rotate_left)
    | (show Exists _; refine Exists.intro (⟨i + 1, bv, pv, jn + ys.l.length, cv, jl ++ ys.l⟩) ⟨?_, ?_, rfl, ⟨(by repeat (first | exact trivial | refine ⟨rfl, ?_⟩ | refine ⟨congrArg (Value.int _) (by omega), ?_⟩)), Imp.to 4 rfl (by repeat' (first | exact trivial | exact .head _ | apply List.Mem.tail | apply And.intro))⟩⟩)
    | (show Post _ _ _ _ _; have hzl := len_at hz; obtain ⟨h1, h2, h3⟩ := hi; dsimp only at h1 h2 h3; subst h2; rw [List.take_of_length_le (by omega)] at h3; exact Rs.post ⟨jl, jp, jc⟩ rfl (Imp.trans (Imp.pubS 3 rfl rfl) (Imp.to 1 rfl (by repeat' (first | exact trivial | exact .head _ | apply List.Mem.tail | apply And.intro)))) h3)
    | (refine SemC.draw 5 [] [.t 0, .t 1, .t 2, .t 3, .t 4, .t 5, .t 6, .t 7, .s 8, .t 9, .s 10, .l 11, .t 12, .l 13] (by kernel_rfl) (by kernel_rfl) ?_; conv => whnf)
    | (refine Idx.nat ?_; conv => whnf)
    | (refine Idx.is _ rfl ?_; conv => whnf)
    | (show HasP _ _ _ _ _ _; refine HasP.mk' (by repeat (first | exact .head _ | apply List.Mem.tail)) (Nx.go ?_))
    | (show RdE _ _ _ _ _ _ _; refine RdE.s (by repeat (first | exact .head _ | apply List.Mem.tail)) (by omega) (fun xe hxe => Nx.go ?_))
    | (show RdB _ _ _; refine RdB.mk' (by repeat (first | exact .head _ | apply List.Mem.tail)) (Nx.go ?_))
    | (refine AR.i64 (by omega) ?_; conv => whnf)
    | (refine AR.u64 (by omega) ?_; conv => whnf)
    | (refine AR.u8 (by omega) ?_; conv => whnf)
    | (refine Ob.mk (by omega) ?_; conv => whnf)
    | (refine BR.mk (fun h => ?_) (fun h => ?_) <;> (first | rw [Bool.not_eq_true'] at h | rw [Bool.not_eq_false'] at h | skip) <;> (try rw [h]) <;> (first | replace h := of_decide_eq_true h | replace h := of_decide_eq_false h | replace h := eq_of_beq h | replace h := bne_iff_ne.1 h | replace h := beq_eq_false_iff_ne.1 h | replace h := bne_eq_false_iff_eq.1 h | skip) <;> conv => whnf)
  · exact ⟨Nat.zero_le _, rfl, rfl⟩
  · have h9 := hi.len hle; rw [hys]; show jn + 1 ≤ _; omega
  · have h9 := hi.len hle; rw [hys]; show jn + 1 ≤ _; omega
  · exact hi.step hM hz hxe hys _ _ _
  · have hzl := len_at hz; dsimp only; omega
end Go.Proofs.YtikjigkkhdkibaaGreatDoor

/- ladder: M20 -/
namespace Go.Proofs.YtikjigkkhdkibaaGreatDoor
open Go.Proofs.YtikjigkkhdkibaaGreatDoor.W
set_option maxRecDepth 100000
set_option linter.unusedVariables false
/-- a call that is lent blocks; ahead of it some are given up -/
theorem CallK.lendP {P : Program} {lb lb' : LBs} {Φ Φ' : Facts} {f : FuncId} {args args' : List SV} {Φ0 : Facts} {bs : LBs} {β : Type} {res : β → SV} {bo : β → LBs} {fs : β → Facts} {pr : β → Prop} {q : SV → LBs → Facts → Prop} (hi : Imp P lb Φ lb' Φ') (is : List Nat) (h : Ct P f bs args' Φ0 (Rs res bo fs pr)) (hp : picks lb' is bs) (hns : noSeq bs = true) (hn : nodupB is = true) (ha : dens args' = dens args) (hΦ : SubK Φ0 Φ')
    (hq : ∀ x, pr x → noSeq (bo x) = true ∧ mergeK is (bo x) lb' fun lb' => appK (fs x) Φ' fun Φ' => q (res x) lb' Φ') (hf : isFn P f := by exact fun _ _ => rfl) : CallK P none f args lb Φ q :=
  ⟨.inl ⟨hf, ⟨fun ω w hr => Calls.mono ((CallS.lend is h hp hns hn ha hΦ.ok (fun _ _ _ ⟨x, h1, h2, h3, h4⟩ => by subst h1 h2 h3; exact hq x h4)).h ω w (hi ω w hr)) fun _ _ ⟨v, lb', Φ', he, hq, hr, _⟩ => ⟨v, lb', Φ', he, hq, hr, trivial⟩⟩⟩⟩
structure WorkG where
  b0 : Nat
  mb : Nat
  wb : Nat

theorem c_gstart (f : Nat) (x : Sli Bin) (h : histRight f x.l = true) : Ct Tryz.prog 269 [] [.agg [.int .i64 f, x.sv]] [x.f encBin 2] (Rs (fun y : WorkG => .tup [.raw (.pointer (some ⟨y.wb, 0, none⟩)), .raw .nilIface]) (fun y => [(y.b0, .cells [.int .i64 f, x.sv] 31), (y.mb, .map (Value.int .i64) (encM (addsM [] x.l)))]) (fun y => [blkF y.wb [.mp 0 y.mb, .int .i64 f] 337]) (fun _ => True)) := by
  refine Ct.post (Ct.of Tryz.func269 rfl (n := 20) rfl rfl rfl ?_)
  conv => whnf
  repeat' first
    | (show SemO _ _ (.makeMap _ _) _ _ _ _ _; refine SemO.makeMap (κ := Int) (Value.int .i64) ?_; conv => whnf)
    | (show SemO _ _ (.lookup _ _ _ _) _ _ _ _ _; refine SemO.lookup ?_; (conv => whnf); refine ⟨inferInstance, KeyLaw.int rfl, KeyIs.int (Ob.mk rfl (mlookU ?_ (fun h => h)))⟩; conv => whnf)
    | (refine Ob.mk rfl ?_; conv => whnf)
    | (refine Nx.mk ?_; conv => whnf)
    | (refine BR.yes ?_; conv => whnf)
    | (refine BR.no ?_; conv => whnf)
    | (intro bk; conv => whnf)
    | (show CallK _ _ 110 _ _ _ _; refine CallK.rv (c_grT f x h) (by repeat' (first | exact trivial | exact .head _ | apply List.Mem.tail | apply And.intro)) (Nx.go ?_))
    | (show CallK _ _ _ _ _ _ _; refine CallK.lendP (Imp.pubCells 2 rfl) [1] (c_gadd _ _ f [] x) ⟨rfl, trivial⟩ rfl rfl rfl (by repeat' (first | exact trivial | exact .head _ | apply List.Mem.tail | apply And.intro)) (fun _ _ => ⟨rfl, Nx.go ?_⟩))
    | (show Post _ _ _ _ _; exact Rs.post ⟨_, _, _⟩ rfl (Imp.to 2 rfl (by repeat' (first | exact trivial | exact .head _ | apply List.Mem.tail | apply And.intro))) trivial)
    | (show RdB _ _ _; refine RdB.mk' (by repeat (first | exact .head _ | apply List.Mem.tail)) (Nx.go ?_))
    | (refine AR.i64 (by omega) ?_; conv => whnf)
    | (refine AR.u64 (by omega) ?_; conv => whnf)
    | (refine AR.u8 (by omega) ?_; conv => whnf)
    | (refine Ob.mk (by omega) ?_; conv => whnf)
    | (refine BR.mk (fun h => ?_) (fun h => ?_) <;> (first | rw [Bool.not_eq_true'] at h | rw [Bool.not_eq_false'] at h | skip) <;> (try rw [h]) <;> (first | replace h := of_decide_eq_true h | replace h := of_decide_eq_false h | replace h := eq_of_beq h | replace h := bne_iff_ne.1 h | replace h := beq_eq_false_iff_ne.1 h | replace h := bne_eq_false_iff_eq.1 h | skip) <;> conv => whnf)

theorem c_bkt (f : Nat) (hf : f ≤ 3) (v : UInt64) : Ct Tryz.prog 143 [] [.int .i64 f, .int .u64 v.toNat] [] (Rv (.int .i64 (bkt f v))) := by
  have hv := v.toNat_lt
  have h := c_bucket f v.toNat (by omega)
  rwa [bucket_bkt hf] at h
theorem InG.put {l : List Bin} (h : InG l) {a : Int} (ha : 0 ≤ a ∧ a < 10000) (n : UInt64) : InG (putG a n l) := fun x hx => by
  rcases putG_mem hx with e | e
  · rw [e]; exact ha
  · exact h x e
theorem InG.puts {l m : List Bin} (h : InG l) (k : InG m) : InG (putsG l m) := by
  unfold putsG
  induction m generalizing l with
  | nil => exact h
  | cons x m ih => exact ih (h.put (k x (by simp)) x.n) fun y hy => k y (by simp [hy])
theorem InG.one {f : Nat} (hf : f ≤ 3) (v n : UInt64) : InG [⟨bkt f v, n⟩] := fun x hx => by
  rw [List.mem_singleton] at hx; subst hx; exact bOk_in hf (bOk_bkt hf v)
theorem InG.eq {l m : List Bin} (h : l = m) (k : InG m) : InG l := h ▸ k
theorem RightG.small {l : List Bin} (h : RightG l) (k : InG l) : l.length ≤ 10000 := by
  have := h.len k (by omega); omega

theorem c_gAdd (f : Nat) (x : Sli Bin) (h : histRight f x.l = true) (v n : UInt64) : Ct Tryz.prog 265 [] [.agg [.int .i64 f, x.sv], .int .u64 v.toNat, .int .u64 n.toNat] [x.f encBin 2] (Rs (fun z : Sli Bin => .tup [.agg [.int .i64 f, z.sv], .int .i64 0]) (fun _ => []) (fun z => [z.f encBin 2]) (fun z => z.l = putG (bkt f v) n x.l)) := by
  obtain ⟨hf, hx1, hx2, hx3⟩ := histR h
  refine Ct.post (Ct.of Tryz.func265 rfl (n := 31) rfl rfl rfl ?_)
  conv => whnf
  repeat' first
    | (show SemO _ _ (.buildSlice _ _ #[(0, .tmp 26)]) _ _ _ _ _; refine SemO.lit ?_; (conv => whnf); show BsV _ _ _ _ _; refine BsV.s [⟨bkt f v, n⟩] (by repeat (first | exact .nil | refine .cons (by first | rfl | exact encB_of (by omega) | exact encU_U (by omega)) ?_)) (fun xo _ => okBin xo) (fun ys hys => Nx.go ?_))
    | (refine Ob.mk rfl ?_; conv => whnf)
    | (refine Nx.mk ?_; conv => whnf)
    | (refine BR.yes ?_; conv => whnf)
    | (refine BR.no ?_; conv => whnf)
    | (intro bk; conv => whnf)
    | (show CallK _ _ 269 _ _ _ _; refine CallK.rs (c_gstart f x h) (by repeat' (first | exact trivial | exact .head _ | apply List.Mem.tail | apply And.intro)) (fun y hy => ⟨rfl, Nx.go ?_⟩))
    | (show CallK _ _ 143 _ _ _ _; refine CallK.rv (c_bkt f hf v) (by repeat' (first | exact trivial | exact .head _ | apply List.Mem.tail | apply And.intro)) (Nx.go ?_))
    | (show CallK _ _ 271 _ _ _ _; refine CallK.lendS [3] (c_gadd y.mb y.wb f (addsM [] x.l) ys) ⟨rfl, trivial⟩ rfl rfl rfl (by repeat' (first | exact trivial | exact .head _ | apply List.Mem.tail | apply And.intro)) (fun _ _ => ⟨rfl, Nx.go ?_⟩))
    | (show CallK _ _ 272 _ _ _ _; refine CallK.lendS [3] (c_gend y.mb y.wb f (addsM (addsM [] x.l) ys.l) (putsG x.l ys.l) ((MapOf.of hx1).adds _) (hx2.puts (InG.eq hys (InG.one hf v n))) (RightG.small (putsG_right hx1 _) (hx2.puts (InG.eq hys (InG.one hf v n))))) ⟨rfl, trivial⟩ rfl rfl rfl (by repeat' (first | exact trivial | exact .head _ | apply List.Mem.tail | apply And.intro)) (fun z hz => ⟨rfl, Nx.go ?_⟩))
    | (show Post _ _ _ _ _; exact Rs.post z rfl (Imp.fs (by repeat' (first | exact trivial | exact .head _ | apply List.Mem.tail | apply And.intro))) (hz.trans (congrArg (putsG x.l) hys)))
    | (show RdB _ _ _; refine RdB.mk' (by repeat (first | exact .head _ | apply List.Mem.tail)) (Nx.go ?_))
    | (refine AR.i64 (by omega) ?_; conv => whnf)
    | (refine AR.u64 (by omega) ?_; conv => whnf)
    | (refine AR.u8 (by omega) ?_; conv => whnf)
    | (refine Ob.mk (by omega) ?_; conv => whnf)
    | (refine BR.mk (fun h => ?_) (fun h => ?_) <;> (first | rw [Bool.not_eq_true'] at h | rw [Bool.not_eq_false'] at h | skip) <;> (try rw [h]) <;> (first | replace h := of_decide_eq_true h | replace h := of_decide_eq_false h | replace h := eq_of_beq h | replace h := bne_iff_ne.1 h | replace h := beq_eq_false_iff_ne.1 h | replace h := bne_eq_false_iff_eq.1 h | skip) <;> conv => whnf)

theorem c_gMerge (f : Nat) (x : Sli Bin) (h : histRight f x.l = true) (y0 : Sli Bin) (h0 : histRight f y0.l = true) : Ct Tryz.prog 268 [] [.agg [.int .i64 f, x.sv], .agg [.int .i64 f, y0.sv]] [x.f encBin 2, y0.f encBin 2] (Rs (fun z : Sli Bin => .tup [.agg [.int .i64 f, z.sv], .int .i64 0]) (fun _ => []) (fun z => [z.f encBin 2]) (fun z => z.l = putsG x.l y0.l)) := by
  obtain ⟨hf, hx1, hx2, hx3⟩ := histR h
  obtain ⟨hg, hy1, hy2, hy3⟩ := histR h0
  refine Ct.post (Ct.of Tryz.func268 rfl (n := 37) rfl rfl rfl ?_)
  conv => whnf
  repeat' first
    | exact absurd rfl h
    | (refine Ob.mk rfl ?_; conv => whnf)
    | (refine Nx.mk ?_; conv => whnf)
    | (refine BR.yes ?_; conv => whnf)
    | (refine BR.no ?_; conv => whnf)
    | (intro bk; conv => whnf)
    | (show CallK _ _ 269 _ _ _ _; refine CallK.rs (c_gstart f x h) (by repeat' (first | exact trivial | exact .head _ | apply List.Mem.tail | apply And.intro)) (fun y hy => ⟨rfl, Nx.go ?_⟩))
    | (show CallK _ _ 110 _ _ _ _; refine CallK.rv (c_grT f y0 h0) (by repeat' (first | exact trivial | exact .head _ | apply List.Mem.tail | apply And.intro)) (Nx.go ?_))
    | (show CallK _ _ 271 _ _ _ _; refine CallK.lendS [4] (c_gadd y.mb y.wb f (addsM [] x.l) y0) ⟨rfl, trivial⟩ rfl rfl rfl (by repeat' (first | exact trivial | exact .head _ | apply List.Mem.tail | apply And.intro)) (fun _ _ => ⟨rfl, Nx.go ?_⟩))
    | (show CallK _ _ 272 _ _ _ _; refine CallK.lendS [4] (c_gend y.mb y.wb f (addsM (addsM [] x.l) y0.l) (putsG x.l y0.l) ((MapOf.of hx1).adds _) (hx2.puts hy2) (RightG.small (putsG_right hx1 _) (hx2.puts hy2))) ⟨rfl, trivial⟩ rfl rfl rfl (by repeat' (first | exact trivial | exact .head _ | apply List.Mem.tail | apply And.intro)) (fun z hz => ⟨rfl, Nx.go ?_⟩))
    | (show Post _ _ _ _ _; exact Rs.post z rfl (Imp.fs (by repeat' (first | exact trivial | exact .head _ | apply List.Mem.tail | apply And.intro))) hz)
    | (show RdB _ _ _; refine RdB.mk' (by repeat (first | exact .head _ | apply List.Mem.tail)) (Nx.go ?_))
    | (refine AR.i64 (by omega) ?_; conv => whnf)
    | (refine AR.u64 (by omega) ?_; conv => whnf)
    | (refine AR.u8 (by omega) ?_; conv => whnf)
    | (refine Ob.mk (by omega) ?_; conv => whnf)
    | (refine BR.mk (fun h => ?_) (fun h => ?_) <;> (first | rw [Bool.not_eq_true'] at h | rw [Bool.not_eq_false'] at h | skip) <;> (try rw [h]) <;> (first | replace h := of_decide_eq_true h | replace h := of_decide_eq_false h | replace h := eq_of_beq h | replace h := bne_iff_ne.1 h | replace h := beq_eq_false_iff_ne.1 h | replace h := bne_eq_false_iff_eq.1 h | skip) <;> conv => whnf)
end Go.Proofs.YtikjigkkhdkibaaGreatDoor

/- ladder: M21 -/
namespace Go.Proofs.YtikjigkkhdkibaaGreatDoor
open Go.Proofs.YtikjigkkhdkibaaGreatDoor.W
set_option maxRecDepth 100000
set_option linter.unusedVariables false
def lowM (M : MapU) (l : List Bin) : MapU := l.foldl (fun M b => addM M ((b.at_ + 1).tdiv 2) b.n) M
theorem MapOf_low {M : MapU} {m : List Bin} (h : MapOf M m) (l : List Bin) : MapOf (lowM M l) (lowF m l) := by
  unfold lowM lowF
  induction l generalizing M m with
  | nil => exact h
  | cons b l ih => exact ih (h.add _ _)
theorem lowM_snoc {M : MapU} {l : List Bin} {i : Nat} {x : Bin} (h : l[i]? = some x) : lowM M (l.take (i + 1)) = addM (lowM M (l.take i)) ((x.at_ + 1).tdiv 2) x.n := by
  rw [take_snoc h, lowM, List.foldl_append]; rfl
theorem half_in {a : Int} (h : 0 ≤ a ∧ a < 10000) : 0 ≤ (a + 1).tdiv 2 ∧ (a + 1).tdiv 2 < 10000 := by
  rw [Int.tdiv_eq_ediv_of_nonneg (by omega)]; omega
theorem lowF_in {l : List Bin} (k : InG l) {m : List Bin} (h : InG m) : InG (lowF m l) := by
  unfold lowF
  induction l generalizing m with
  | nil => exact h
  | cons x l ih => exact ih (fun y hy => k y (by simp [hy])) (h.put (half_in (k x (by simp))) x.n)
/-- the first blocks stay; facts are added -/
theorem SemC.loopNF {P : Program} {nt : Nat} {ro : Option Nat} {c : Code} {Q : QT} {env : Env} {ds : List Deferred} {lb : LBs} {Φ : Facts} {ι : Type} (U : ι → Env) (B : LBs → ι → LBs) (F : Facts → Facts) (I : ι → Prop) (μ : ι → Nat) (x0 : ι) (h : keepK (asg c) env fun env0 => LoopQ P nt ro c Q ds env lb Φ U (B lb) (fun _ => F Φ) I μ x0 env0) : SemC P nt ro (.loop c) env ds lb Φ Q := SemC.loopU U _ _ I μ x0 h
theorem low_all {l : List Bin} {i : Nat} {m : MapU} (hi : i ≤ l.length ∧ m = lowM [] (l.take i)) (h : ¬ (i : Int) < (l.length : Int)) : MapOf m (lowF [] l) := by
  obtain ⟨h1, rfl⟩ := hi
  rw [List.take_of_length_le (by omega)]
  exact MapOf_low MapOf.nil l
theorem addsM_one (M : MapU) (a : Int) (n : UInt64) : addsM M [⟨a, n⟩] = addM M a n := rfl

theorem c_gLower (f : Nat) (x : Sli Bin) (h : histRight (f + 1 : Nat) x.l = true) : Ct Tryz.prog 267 [] [.agg [.int .i64 (f + 1 : Nat), x.sv]] [x.f encBin 2] (Rs (fun z : Sli Bin => .tup [.agg [.int .i64 f, z.sv], .int .i64 0]) (fun _ => []) (fun z => [z.f encBin 2]) (fun z => z.l = lowF [] x.l)) := by
  obtain ⟨hf, hx1, hx2, hx3⟩ := histR h
  refine Ct.post (Ct.of Tryz.func267 rfl (n := 45) rfl rfl rfl ?_)
  conv => whnf
  repeat' first
    | (show SemO _ _ (.buildSlice _ _ #[(0, .tmp 39)]) _ _ _ _ _; refine SemO.lit ?_; (conv => whnf); show BsV _ _ _ _ _; refine BsV.s [⟨(xe.at_ + 1).tdiv 2, xe.n⟩] (by repeat (first | exact .nil | refine .cons (by first | rfl | exact encB_of (by omega) | exact encU_U (by omega)) ?_)) (fun xo _ => okBin xo) (fun ys hys => Nx.go ?_))
    | (have hxr := hx2 xe (List.mem_of_getElem? hxe); show AR .i64 (xe.at_ + 1) _; refine AR.i64 (by omega) ?_; conv => whnf)
    | (have hxr := half_in (hx2 xe (List.mem_of_getElem? hxe)); show AR .i64 (Int.tdiv _ _) _; refine AR.i64 (by omega) ?_; conv => whnf)
    | (show SemO _ _ (.makeMap _ _) _ _ _ _ _; refine SemO.makeMap (κ := Int) (Value.int .i64) ?_; (conv => whnf); intro mb; conv => whnf)
    | (show BR (((f + 1 : Nat) : Int) == 0) _ _; refine BR.noK (beq_false_of_ne (by omega)) ?_; conv => whnf)
    | (show AR .i64 (((f + 1 : Nat) : Int) - 1) _; refine AR.is (e := ((f + 1 : Nat) : Int) - 1) (r := (f : Int)) ((IntWalk.i64_in _ ⟨by omega, by omega⟩).trans (by omega)) ?_; conv => whnf)
    | (refine Ob.mk rfl ?_; conv => whnf)
    | (refine Nx.mk ?_; conv => whnf)
    | (refine BR.yes ?_; conv => whnf)
    | (refine BR.no ?_; conv => whnf)
    | (intro bk; conv => whnf)
    | (show CallK _ _ 110 _ _ _ _; refine CallK.rv (c_grT (f + 1 : Nat) x h) (by repeat' (first | exact trivial | exact .head _ | apply List.Mem.tail | apply And.intro)) (Nx.go ?_))
    | (show CallK _ _ 271 _ _ _ _; refine CallK.lendS [2] (c_gadd mb _ f m ys) ⟨rfl, trivial⟩ rfl rfl rfl (by repeat' (first | exact trivial | exact .head _ | apply List.Mem.tail | apply And.intro)) (fun _ _ => ⟨rfl, Nx.go ?_⟩))
    | (show CallK _ _ 272 _ _ _ _; refine CallK.lendS [2] (c_gend mb _ f m (lowF [] x.l) (low_all hi h) (lowF_in hx2 (fun _ h => by simp at h)) (RightG.small (lowF_right ⟨by simp, by simp⟩ _) (lowF_in hx2 (fun _ h => by simp at h)))) ⟨rfl, trivial⟩ rfl rfl rfl (by repeat' (first | exact trivial | exact .head _ | apply List.Mem.tail | apply And.intro)) (fun z hz => ⟨rfl, Nx.go ?_⟩))
    | (show SemC _ _ _ (.loop (.seq (.region 5 _ _) _)) _ _ _ _ _; refine SemC.loopNF (c := (.seq (.region 5 _ _) _)) (fun j : Nat × MapU => [(28, .int .i64 j.1)]) (fun lb j => (lb.set 2 (mb, .map (Value.int .i64) (encM j.2))).set 3 (bk, .hole)) (fun Φ => blkF bk [.mp 2 mb, .int .i64 f] 337 :: Φ) (fun j => j.1 ≤ x.l.length ∧ j.2 = lowM [] (x.l.take j.1)) (fun j => x.l.length - j.1) (0, []) ?_; (conv => whnf); refine LoopQ.mk ?_ ⟨(by repeat (first | exact trivial | refine ⟨rfl, ?_⟩ | refine ⟨congrArg (Value.int _) (by omega), ?_⟩)), (Imp.pubCells 3 rfl)⟩ (fun j hi => ?_); rotate_left; obtain ⟨i, m⟩ := j; dsimp only at hi ⊢; rotate_left)
    | (show Exists _; refine Exists.intro ((i + 1, addsM m ys.l)) ⟨?_, ?_, rfl, ⟨(by repeat (first | exact trivial | refine ⟨rfl, ?_⟩ | refine ⟨congrArg (Value.int _) (by omega), ?_⟩)), Imp.to 4 rfl (by repeat' (first | exact trivial | exact .head _ | apply List.Mem.tail | apply And.intro))⟩⟩)
    | (show Post _ _ _ _ _; exact Rs.post z rfl (Imp.fs (by repeat' (first | exact trivial | exact .head _ | apply List.Mem.tail | apply And.intro))) hz)
    | (refine Idx.nat ?_; conv => whnf)
    | (refine Idx.is _ rfl ?_; conv => whnf)
    | (show HasP _ _ _ _ _ _; refine HasP.mk' (by repeat (first | exact .head _ | apply List.Mem.tail)) (Nx.go ?_))
    | (show RdE _ _ _ _ _ _ _; refine RdE.s (by repeat (first | exact .head _ | apply List.Mem.tail)) (by omega) (fun xe hxe => Nx.go ?_))
    | (show RdB _ _ _; refine RdB.mk' (by repeat (first | exact .head _ | apply List.Mem.tail)) (Nx.go ?_))
    | (refine AR.i64 (by omega) ?_; conv => whnf)
    | (refine AR.u64 (by omega) ?_; conv => whnf)
    | (refine AR.u8 (by omega) ?_; conv => whnf)
    | (refine Ob.mk (by omega) ?_; conv => whnf)
    | (refine BR.mk (fun h => ?_) (fun h => ?_) <;> (first | rw [Bool.not_eq_true'] at h | rw [Bool.not_eq_false'] at h | skip) <;> (try rw [h]) <;> (first | replace h := of_decide_eq_true h | replace h := of_decide_eq_false h | replace h := eq_of_beq h | replace h := bne_iff_ne.1 h | replace h := beq_eq_false_iff_ne.1 h | replace h := bne_eq_false_iff_eq.1 h | skip) <;> conv => whnf)
  · exact ⟨Nat.zero_le _, rfl⟩
  · exact ⟨by dsimp only; omega, by show addsM m ys.l = lowM [] (x.l.take (i + 1)); rw [lowM_snoc hxe, ← hi.2, hys, addsM_one]⟩
  · dsimp only; omega
end Go.Proofs.YtikjigkkhdkibaaGreatDoor

/- ladder: M22 -/
namespace Go.Proofs.YtikjigkkhdkibaaGreatDoor
open Go.Proofs.YtikjigkkhdkibaaGreatDoor.W
set_option maxRecDepth 100000
set_option linter.unusedVariables false
theorem c_errOf0  : Ct Tryz.prog 177 [] [.int .i64 0] [] (Rv (.raw .nilIface)) := by
  refine Ct.of Tryz.func177 rfl (n := 8) rfl rfl rfl ?_
  conv => whnf
  repeat' first
    | (refine Ob.mk rfl ?_; conv => whnf)
    | (refine Nx.mk ?_; conv => whnf)
    | (refine BR.yes ?_; conv => whnf)
    | (refine BR.no ?_; conv => whnf)
    | (refine AR.i64 (by omega) ?_; conv => whnf)
    | (refine AR.u64 (by omega) ?_; conv => whnf)
    | (refine AR.u8 (by omega) ?_; conv => whnf)
    | (refine Ob.mk (by omega) ?_; conv => whnf)
    | (refine BR.mk (fun h => ?_) (fun h => ?_) <;> (first | rw [Bool.not_eq_true'] at h | rw [Bool.not_eq_false'] at h | skip) <;> (try rw [h]) <;> (first | replace h := of_decide_eq_true h | replace h := of_decide_eq_false h | replace h := eq_of_beq h | replace h := bne_iff_ne.1 h | replace h := beq_eq_false_iff_ne.1 h | replace h := bne_eq_false_iff_eq.1 h | skip) <;> conv => whnf)
  all_goals rfl

theorem c_addR (b : Nat) (r : List UInt8) (h : hllRight b r = true) (u n : UInt64) : Ct Tryz.prog 208 [] [.agg [.int .i64 b, .str r], .agg [.int .u64 u.toNat, .int .u64 n.toNat]] [] (Rv (.tup [.iface 171 (.agg [.int .i64 b, .str (addR b r u)]), .raw .nilIface])) := by
  refine Ct.of Tryz.func208 rfl (n := 21) rfl rfl rfl ?_
  conv => whnf
  repeat' first
    | (refine Ob.mk rfl ?_; conv => whnf)
    | (refine Nx.mk ?_; conv => whnf)
    | (intro bk; conv => whnf)
    | (show CallK _ _ 213 _ _ _ _; refine CallK.rv (c_hAdd b r h u) (by repeat' (first | exact trivial | exact .head _ | apply List.Mem.tail | apply And.intro)) (Nx.go ?_))
    | (show CallK _ _ _ _ _ _ _; refine CallK.rv c_errOf0 (by repeat' (first | exact trivial | exact .head _ | apply List.Mem.tail | apply And.intro)) (Nx.go ?_))
    | (refine SemC.draw 2 [] [.t 0, .t 1, .t 2, .t 3, .s 4, .t 5, .t 6] (by kernel_rfl) (by kernel_rfl) ?_; conv => whnf)
    | (show RdB _ _ _; refine RdB.mk' (by repeat (first | exact .head _ | apply List.Mem.tail)) (Nx.go ?_))
    | (refine Ob.mk (by omega) ?_; conv => whnf)
  all_goals rfl

theorem c_lowR (b : Nat) (r : List UInt8) (h : hllRight b r = true) (h4 : 4 ≤ b) : Ct Tryz.prog 211 [] [.agg [.int .i64 b, .str r]] [] (Rv (.tup [.iface 171 (.agg [.int .i64 (b - 1 : Nat), .str (lowR r)]), .raw .nilIface])) := by
  refine Ct.of Tryz.func211 rfl (n := 17) rfl rfl rfl ?_
  conv => whnf
  repeat' first
    | (refine Ob.mk rfl ?_; conv => whnf)
    | (refine Nx.mk ?_; conv => whnf)
    | (intro bk; conv => whnf)
    | (show CallK _ _ 215 _ _ _ _; refine CallK.rv (c_hLower b r h h4) (by repeat' (first | exact trivial | exact .head _ | apply List.Mem.tail | apply And.intro)) (Nx.go ?_))
    | (show CallK _ _ _ _ _ _ _; refine CallK.rv c_errOf0 (by repeat' (first | exact trivial | exact .head _ | apply List.Mem.tail | apply And.intro)) (Nx.go ?_))
    | (refine SemC.draw 2 [] [.t 0, .t 1, .t 2, .t 3, .s 4, .t 5, .t 6] (by kernel_rfl) (by kernel_rfl) ?_; conv => whnf)
    | (show RdB _ _ _; refine RdB.mk' (by repeat (first | exact .head _ | apply List.Mem.tail)) (Nx.go ?_))
    | (refine Ob.mk (by omega) ?_; conv => whnf)
  all_goals rfl

theorem c_mrgR (b : Nat) (r z : List UInt8) (h : hllRight b r = true) (hz : hllRight b z = true) : Ct Tryz.prog 212 [] [.agg [.int .i64 b, .str r], .iface 171 (.agg [.int .i64 b, .str (z)])] [] (Rv (.tup [.iface 171 (.agg [.int .i64 b, .str (mergeR r z)]), .raw .nilIface])) := by
  refine Ct.of Tryz.func212 rfl (n := 22) rfl rfl rfl ?_
  conv => whnf
  repeat' first
    | (refine SemC.drawU 1 [] (.many [.t 0, .t 1, .t 2, .t 3, .t 4] (.two 5 (.many [.t 6, .t 7] (.two 8 (.many [.s 9, .l 10, .t 11] .nil) 9 (.two 8 (.many [.l 10, .t 11] .nil) 10 (.many [.s 8, .t 11] .nil) true) false)) 9 (.many [.s 5, .t 6, .t 7] (.two 8 (.many [.l 10, .t 11] .nil) 10 (.many [.s 8, .t 11] .nil) true)) false)) (by kernel_rfl) (by kernel_rfl) ?_; conv => whnf)
    | (refine Two.mk ?_ ?_ <;> conv => whnf)
    | (refine Ob.mk rfl ?_; conv => whnf)
    | (refine Nx.mk ?_; conv => whnf)
    | (refine BR.yes ?_; conv => whnf)
    | (refine BR.no ?_; conv => whnf)
    | (intro bk; conv => whnf)
    | (show CallK _ _ 216 _ _ _ _; refine CallK.rv (c_hMerge b r z h hz) (by repeat' (first | exact trivial | exact .head _ | apply List.Mem.tail | apply And.intro)) (Nx.go ?_))
    | (show CallK _ _ _ _ _ _ _; refine CallK.rv c_errOf0 (by repeat' (first | exact trivial | exact .head _ | apply List.Mem.tail | apply And.intro)) (Nx.go ?_))
    | (refine SemC.draw 2 [] [.t 0, .t 1, .t 2, .t 3, .s 4, .t 5, .t 6] (by kernel_rfl) (by kernel_rfl) ?_; conv => whnf)
    | (show RdB _ _ _; refine RdB.mk' (by repeat (first | exact .head _ | apply List.Mem.tail)) (Nx.go ?_))
    | (refine Ob.mk (by omega) ?_; conv => whnf)
  all_goals rfl

theorem c_addC (c : Nat) (x : Sli UInt64) (h : cmsRight (2 : Nat) c x.l = true) (u n : UInt64) : Ct Tryz.prog 242 [] [.agg [.int .i64 2, .int .i64 c, x.sv], .agg [.int .u64 u.toNat, .int .u64 n.toNat]] [x.f encU 1] (Rs (fun z : Sli UInt64 => .tup [.iface 173 (.agg [.int .i64 2, .int .i64 c, z.sv]), .raw .nilIface]) (fun _ => []) (fun z => [z.f encU 1]) (fun z => z.l = addsC 2 c u n x.l)) := by
  refine Ct.post (Ct.of Tryz.func242 rfl (n := 23) rfl rfl rfl ?_)
  conv => whnf
  repeat' first
    | (refine Ob.mk rfl ?_; conv => whnf)
    | (refine Nx.mk ?_; conv => whnf)
    | (intro bk; conv => whnf)
    | (show CallK _ _ 247 _ _ _ _; refine CallK.rf (c_cAdd 2 c x h u n) (by repeat' (first | exact trivial | exact .head _ | apply List.Mem.tail | apply And.intro)) (fun z hz => Nx.go ?_))
    | (show CallK _ _ _ _ _ _ _; refine CallK.rv c_errOf0 (by repeat' (first | exact trivial | exact .head _ | apply List.Mem.tail | apply And.intro)) (Nx.go ?_))
    | (show Post _ _ _ _ _; exact Rs.post z rfl (Imp.fs (by repeat' (first | exact trivial | exact .head _ | apply List.Mem.tail | apply And.intro))) hz)
    | (refine SemC.draw 2 [] [.t 0, .t 1, .t 2, .t 3, .s 4, .t 5, .t 6] (by kernel_rfl) (by kernel_rfl) ?_; conv => whnf)
    | (show RdB _ _ _; refine RdB.mk' (by repeat (first | exact .head _ | apply List.Mem.tail)) (Nx.go ?_))
    | (refine Ob.mk (by omega) ?_; conv => whnf)

theorem c_lowC (c : Nat) (x : Sli UInt64) (h : cmsRight (2 : Nat) c x.l = true) (h4 : c ≠ 4) : Ct Tryz.prog 245 [] [.agg [.int .i64 2, .int .i64 c, x.sv]] [x.f encU 1] (Rs (fun z : Sli UInt64 => .tup [.iface 173 (.agg [.int .i64 2, .int .i64 (c / 2 : Nat), z.sv]), .raw .nilIface]) (fun _ => []) (fun z => [z.f encU 1]) (fun z => z.l = lowC 2 c x.l)) := by
  refine Ct.post (Ct.of Tryz.func245 rfl (n := 17) rfl rfl rfl ?_)
  conv => whnf
  repeat' first
    | (refine Ob.mk rfl ?_; conv => whnf)
    | (refine Nx.mk ?_; conv => whnf)
    | (intro bk; conv => whnf)
    | (show CallK _ _ 249 _ _ _ _; refine CallK.rf (c_cLower 2 c x h h4) (by repeat' (first | exact trivial | exact .head _ | apply List.Mem.tail | apply And.intro)) (fun z hz => Nx.go ?_))
    | (show CallK _ _ _ _ _ _ _; refine CallK.rv c_errOf0 (by repeat' (first | exact trivial | exact .head _ | apply List.Mem.tail | apply And.intro)) (Nx.go ?_))
    | (show Post _ _ _ _ _; exact Rs.post z rfl (Imp.fs (by repeat' (first | exact trivial | exact .head _ | apply List.Mem.tail | apply And.intro))) hz)
    | (refine SemC.draw 2 [] [.t 0, .t 1, .t 2, .t 3, .s 4, .t 5, .t 6] (by kernel_rfl) (by kernel_rfl) ?_; conv => whnf)
    | (show RdB _ _ _; refine RdB.mk' (by repeat (first | exact .head _ | apply List.Mem.tail)) (Nx.go ?_))
    | (refine Ob.mk (by omega) ?_; conv => whnf)

theorem c_mrgC (c : Nat) (x y : Sli UInt64) (h : cmsRight (2 : Nat) c x.l = true) (h2 : cmsRight (2 : Nat) c y.l = true) : Ct Tryz.prog 246 [] [.agg [.int .i64 2, .int .i64 c, x.sv], .iface 173 (.agg [.int .i64 2, .int .i64 c, y.sv])] [x.f encU 1, y.f encU 1] (Rs (fun z : Sli UInt64 => .tup [.iface 173 (.agg [.int .i64 2, .int .i64 c, z.sv]), .raw .nilIface]) (fun _ => []) (fun z => [z.f encU 1]) (fun z => z.l = mergeC x.l y.l)) := by
  refine Ct.post (Ct.of Tryz.func246 rfl (n := 22) rfl rfl rfl ?_)
  conv => whnf
  repeat' first
    | (refine SemC.drawU 1 [] (.many [.t 0, .t 1, .t 2, .t 3, .t 4] (.two 5 (.many [.t 6, .t 7] (.two 8 (.many [.s 9, .l 10, .t 11] .nil) 9 (.two 8 (.many [.l 10, .t 11] .nil) 10 (.many [.s 8, .t 11] .nil) true) false)) 9 (.many [.s 5, .t 6, .t 7] (.two 8 (.many [.l 10, .t 11] .nil) 10 (.many [.s 8, .t 11] .nil) true)) false)) (by kernel_rfl) (by kernel_rfl) ?_; conv => whnf)
    | (refine Two.mk ?_ ?_ <;> conv => whnf)
    | (refine Ob.mk rfl ?_; conv => whnf)
    | (refine Nx.mk ?_; conv => whnf)
    | (refine BR.yes ?_; conv => whnf)
    | (refine BR.no ?_; conv => whnf)
    | (intro bk; conv => whnf)
    | (show CallK _ _ 250 _ _ _ _; refine CallK.rf (c_cMerge 2 c x y h h2) (by repeat' (first | exact trivial | exact .head _ | apply List.Mem.tail | apply And.intro)) (fun z hz => Nx.go ?_))
    | (show CallK _ _ _ _ _ _ _; refine CallK.rv c_errOf0 (by repeat' (first | exact trivial | exact .head _ | apply List.Mem.tail | apply And.intro)) (Nx.go ?_))
    | (show Post _ _ _ _ _; exact Rs.post z rfl (Imp.fs (by repeat' (first | exact trivial | exact .head _ | apply List.Mem.tail | apply And.intro))) hz)
    | (refine SemC.draw 2 [] [.t 0, .t 1, .t 2, .t 3, .s 4, .t 5, .t 6] (by kernel_rfl) (by kernel_rfl) ?_; conv => whnf)
    | (show RdB _ _ _; refine RdB.mk' (by repeat (first | exact .head _ | apply List.Mem.tail)) (Nx.go ?_))
    | (refine Ob.mk (by omega) ?_; conv => whnf)

theorem c_addG (f : Nat) (x : Sli Bin) (h : histRight f x.l = true) (u n : UInt64) : Ct Tryz.prog 260 [] [.agg [.int .i64 f, x.sv], .agg [.int .u64 u.toNat, .int .u64 n.toNat]] [x.f encBin 2] (Rs (fun z : Sli Bin => .tup [.iface 175 (.agg [.int .i64 f, z.sv]), .raw .nilIface]) (fun _ => []) (fun z => [z.f encBin 2]) (fun z => z.l = putG (bkt f u) n x.l)) := by
  refine Ct.post (Ct.of Tryz.func260 rfl (n := 23) rfl rfl rfl ?_)
  conv => whnf
  repeat' first
    | (refine Ob.mk rfl ?_; conv => whnf)
    | (refine Nx.mk ?_; conv => whnf)
    | (intro bk; conv => whnf)
    | (show CallK _ _ 265 _ _ _ _; refine CallK.rf (c_gAdd f x h u n) (by repeat' (first | exact trivial | exact .head _ | apply List.Mem.tail | apply And.intro)) (fun z hz => Nx.go ?_))
    | (show CallK _ _ _ _ _ _ _; refine CallK.rv c_errOf0 (by repeat' (first | exact trivial | exact .head _ | apply List.Mem.tail | apply And.intro)) (Nx.go ?_))
    | (show Post _ _ _ _ _; exact Rs.post z rfl (Imp.fs (by repeat' (first | exact trivial | exact .head _ | apply List.Mem.tail | apply And.intro))) hz)
    | (refine SemC.draw 2 [] [.t 0, .t 1, .t 2, .t 3, .s 4, .t 5, .t 6] (by kernel_rfl) (by kernel_rfl) ?_; conv => whnf)
    | (show RdB _ _ _; refine RdB.mk' (by repeat (first | exact .head _ | apply List.Mem.tail)) (Nx.go ?_))
    | (refine Ob.mk (by omega) ?_; conv => whnf)

theorem c_lowG (f : Nat) (x : Sli Bin) (h : histRight (f + 1 : Nat) x.l = true) : Ct Tryz.prog 263 [] [.agg [.int .i64 (f + 1 : Nat), x.sv]] [x.f encBin 2] (Rs (fun z : Sli Bin => .tup [.iface 175 (.agg [.int .i64 f, z.sv]), .raw .nilIface]) (fun _ => []) (fun z => [z.f encBin 2]) (fun z => z.l = lowF [] x.l)) := by
  refine Ct.post (Ct.of Tryz.func263 rfl (n := 17) rfl rfl rfl ?_)
  conv => whnf
  repeat' first
    | (refine Ob.mk rfl ?_; conv => whnf)
    | (refine Nx.mk ?_; conv => whnf)
    | (intro bk; conv => whnf)
    | (show CallK _ _ 267 _ _ _ _; refine CallK.rf (c_gLower f x h) (by repeat' (first | exact trivial | exact .head _ | apply List.Mem.tail | apply And.intro)) (fun z hz => Nx.go ?_))
    | (show CallK _ _ _ _ _ _ _; refine CallK.rv c_errOf0 (by repeat' (first | exact trivial | exact .head _ | apply List.Mem.tail | apply And.intro)) (Nx.go ?_))
    | (show Post _ _ _ _ _; exact Rs.post z rfl (Imp.fs (by repeat' (first | exact trivial | exact .head _ | apply List.Mem.tail | apply And.intro))) hz)
    | (refine SemC.draw 2 [] [.t 0, .t 1, .t 2, .t 3, .s 4, .t 5, .t 6] (by kernel_rfl) (by kernel_rfl) ?_; conv => whnf)
    | (show RdB _ _ _; refine RdB.mk' (by repeat (first | exact .head _ | apply List.Mem.tail)) (Nx.go ?_))
    | (refine Ob.mk (by omega) ?_; conv => whnf)

theorem c_mrgG (f : Nat) (x y : Sli Bin) (h : histRight f x.l = true) (h2 : histRight f y.l = true) : Ct Tryz.prog 264 [] [.agg [.int .i64 f, x.sv], .iface 175 (.agg [.int .i64 f, y.sv])] [x.f encBin 2, y.f encBin 2] (Rs (fun z : Sli Bin => .tup [.iface 175 (.agg [.int .i64 f, z.sv]), .raw .nilIface]) (fun _ => []) (fun z => [z.f encBin 2]) (fun z => z.l = putsG x.l y.l)) := by
  refine Ct.post (Ct.of Tryz.func264 rfl (n := 22) rfl rfl rfl ?_)
  conv => whnf
  repeat' first
    | (refine SemC.drawU 1 [] (.many [.t 0, .t 1, .t 2, .t 3, .t 4] (.two 5 (.many [.t 6, .t 7] (.two 8 (.many [.s 9, .l 10, .t 11] .nil) 9 (.two 8 (.many [.l 10, .t 11] .nil) 10 (.many [.s 8, .t 11] .nil) true) false)) 9 (.many [.s 5, .t 6, .t 7] (.two 8 (.many [.l 10, .t 11] .nil) 10 (.many [.s 8, .t 11] .nil) true)) false)) (by kernel_rfl) (by kernel_rfl) ?_; conv => whnf)
    | (refine Two.mk ?_ ?_ <;> conv => whnf)
    | (refine Ob.mk rfl ?_; conv => whnf)
    | (refine Nx.mk ?_; conv => whnf)
    | (refine BR.yes ?_; conv => whnf)
    | (refine BR.no ?_; conv => whnf)
    | (intro bk; conv => whnf)
    | (show CallK _ _ 268 _ _ _ _; refine CallK.rf (c_gMerge f x h y h2) (by repeat' (first | exact trivial | exact .head _ | apply List.Mem.tail | apply And.intro)) (fun z hz => Nx.go ?_))
    | (show CallK _ _ _ _ _ _ _; refine CallK.rv c_errOf0 (by repeat' (first | exact trivial | exact .head _ | apply List.Mem.tail | apply And.intro)) (Nx.go ?_))
    | (show Post _ _ _ _ _; exact Rs.post z rfl (Imp.fs (by repeat' (first | exact trivial | exact .head _ | apply List.Mem.tail | apply And.intro))) hz)
    | (refine SemC.draw 2 [] [.t 0, .t 1, .t 2, .t 3, .s 4, .t 5, .t 6] (by kernel_rfl) (by kernel_rfl) ?_; conv => whnf)
    | (show RdB _ _ _; refine RdB.mk' (by repeat (first | exact .head _ | apply List.Mem.tail)) (Nx.go ?_))
    | (refine Ob.mk (by omega) ?_; conv => whnf)

theorem c_lowS (x : Sli UInt64) : Ct Tryz.prog 172 [] [.agg [x.sv]] [x.f encU 1] (Rv (.tup [.iface 171 (.agg [.int .i64 (7 : Nat), .str (ofR 7 x.l)]), .raw .nilIface])) := by
  refine Ct.of Tryz.func172 rfl (n := 18) rfl rfl rfl ?_
  conv => whnf
  repeat' first
    | (refine Ob.mk rfl ?_; conv => whnf)
    | (refine Nx.mk ?_; conv => whnf)
    | (intro bk; conv => whnf)
    | (show CallK _ _ 176 _ _ _ _; refine CallK.rv (c_hOf 7 (by omega) x) (by repeat' (first | exact trivial | exact .head _ | apply List.Mem.tail | apply And.intro)) (Nx.go ?_))
    | (show CallK _ _ _ _ _ _ _; refine CallK.rv c_errOf0 (by repeat' (first | exact trivial | exact .head _ | apply List.Mem.tail | apply And.intro)) (Nx.go ?_))
    | (refine SemC.draw 2 [] [.t 0, .t 1, .t 2, .t 3, .s 4, .t 5, .t 6] (by kernel_rfl) (by kernel_rfl) ?_; conv => whnf)
    | (show RdB _ _ _; refine RdB.mk' (by repeat (first | exact .head _ | apply List.Mem.tail)) (Nx.go ?_))
    | (refine Ob.mk (by omega) ?_; conv => whnf)
  all_goals rfl

theorem of_right (l : List UInt64) : hllRight (7 : Nat) (ofR 7 l) = true := (IsRegs.of (by omega) l).right (by omega)

theorem c_addS0 (x : Sli UInt64) (h : exactRight x.l = true) (u n : UInt64) (hl : (insU u x.l).length ≤ 64) : Ct Tryz.prog 169 [] [.agg [x.sv], .agg [.int .u64 u.toNat, .int .u64 n.toNat]] [x.f encU 1] (Rs (fun z : Sli UInt64 => .tup [.iface 169 (.agg [z.sv]), .raw .nilIface]) (fun _ => []) (fun z => [z.f encU 1]) (fun z => z.l = insU u x.l)) := by
  refine Ct.post (Ct.of Tryz.func169 rfl (n := 36) rfl rfl rfl ?_)
  conv => whnf
  repeat' first
    | (refine Ob.mk rfl ?_; conv => whnf)
    | (refine Nx.mk ?_; conv => whnf)
    | (refine BR.yes ?_; conv => whnf)
    | (refine BR.no ?_; conv => whnf)
    | (intro bk; conv => whnf)
    | (show CallK _ _ 174 _ _ _ _; refine CallK.rf (c_eaT x u h hl) (by repeat' (first | exact trivial | exact .head _ | apply List.Mem.tail | apply And.intro)) (fun z hz => Nx.go ?_))
    | (show Post _ _ _ _ _; exact Rs.post z rfl (Imp.fs (by repeat' (first | exact trivial | exact .head _ | apply List.Mem.tail | apply And.intro))) hz)
    | (show RdB _ _ _; refine RdB.mk' (by repeat (first | exact .head _ | apply List.Mem.tail)) (Nx.go ?_))
    | (refine AR.i64 (by omega) ?_; conv => whnf)
    | (refine AR.u64 (by omega) ?_; conv => whnf)
    | (refine AR.u8 (by omega) ?_; conv => whnf)
    | (refine Ob.mk (by omega) ?_; conv => whnf)
    | (refine BR.mk (fun h => ?_) (fun h => ?_) <;> (first | rw [Bool.not_eq_true'] at h | rw [Bool.not_eq_false'] at h | skip) <;> (try rw [h]) <;> (first | replace h := of_decide_eq_true h | replace h := of_decide_eq_false h | replace h := eq_of_beq h | replace h := bne_iff_ne.1 h | replace h := beq_eq_false_iff_ne.1 h | replace h := bne_eq_false_iff_eq.1 h | skip) <;> conv => whnf)

theorem c_addS1 (x : Sli UInt64) (h : exactRight x.l = true) (u n : UInt64) (hl : 64 < (insU u x.l).length) : Ct Tryz.prog 169 [] [.agg [x.sv], .agg [.int .u64 u.toNat, .int .u64 n.toNat]] [x.f encU 1] (Rv (.tup [.iface 171 (.agg [.int .i64 (7 : Nat), .str (addR 7 (ofR 7 x.l) u)]), .raw .nilIface])) := by
  refine Ct.of Tryz.func169 rfl (n := 36) rfl rfl rfl ?_
  conv => whnf
  repeat' first
    | (refine Ob.mk rfl ?_; conv => whnf)
    | (refine Nx.mk ?_; conv => whnf)
    | (refine BR.yes ?_; conv => whnf)
    | (refine BR.no ?_; conv => whnf)
    | (intro bk; conv => whnf)
    | (show CallK _ _ 174 _ _ _ _; refine CallK.rv (c_eaB x u h hl) (by repeat' (first | exact trivial | exact .head _ | apply List.Mem.tail | apply And.intro)) (Nx.go ?_))
    | (show CallK _ _ 172 _ _ _ _; refine CallK.rv (c_lowS x) (by repeat' (first | exact trivial | exact .head _ | apply List.Mem.tail | apply And.intro)) (Nx.go ?_))
    | (show CallK _ _ 208 _ _ _ _; refine CallK.rv (c_addR 7 (ofR 7 x.l) (of_right x.l) u n) (by repeat' (first | exact trivial | exact .head _ | apply List.Mem.tail | apply And.intro)) (Nx.go ?_))
    | (show InvK _ _ _ _ _; refine InvK.mk' 208 (.agg [.int .i64 (7 : Nat), .str (ofR 7 x.l)]) (fun w => by kernel_rfl) ?_; conv => whnf)
    | (show RdB _ _ _; refine RdB.mk' (by repeat (first | exact .head _ | apply List.Mem.tail)) (Nx.go ?_))
    | (refine AR.i64 (by omega) ?_; conv => whnf)
    | (refine AR.u64 (by omega) ?_; conv => whnf)
    | (refine AR.u8 (by omega) ?_; conv => whnf)
    | (refine Ob.mk (by omega) ?_; conv => whnf)
    | (refine BR.mk (fun h => ?_) (fun h => ?_) <;> (first | rw [Bool.not_eq_true'] at h | rw [Bool.not_eq_false'] at h | skip) <;> (try rw [h]) <;> (first | replace h := of_decide_eq_true h | replace h := of_decide_eq_false h | replace h := eq_of_beq h | replace h := bne_iff_ne.1 h | replace h := beq_eq_false_iff_ne.1 h | replace h := bne_eq_false_iff_eq.1 h | skip) <;> conv => whnf)
  all_goals rfl

theorem c_mrgS0 (x y : Sli UInt64) (h : exactRight x.l = true) (h2 : exactRight y.l = true) (hl : (ofE x.l y.l).length ≤ 64) : Ct Tryz.prog 173 [] [.agg [x.sv], .iface 169 (.agg [y.sv])] [x.f encU 1, y.f encU 1] (Rs (fun z : Sli UInt64 => .tup [.iface 169 (.agg [z.sv]), .raw .nilIface]) (fun _ => []) (fun z => [z.f encU 1]) (fun z => z.l = ofE x.l y.l)) := by
  refine Ct.post (Ct.of Tryz.func173 rfl (n := 48) rfl rfl rfl ?_)
  conv => whnf
  repeat' first
    | (refine Ob.mk rfl ?_; conv => whnf)
    | (refine Nx.mk ?_; conv => whnf)
    | (refine BR.yes ?_; conv => whnf)
    | (refine BR.no ?_; conv => whnf)
    | (intro bk; conv => whnf)
    | (show CallK _ _ 178 _ _ _ _; refine CallK.rf (c_emT x y h h2 hl) (by repeat' (first | exact trivial | exact .head _ | apply List.Mem.tail | apply And.intro)) (fun z hz => Nx.go ?_))
    | (show Post _ _ _ _ _; exact Rs.post z rfl (Imp.fs (by repeat' (first | exact trivial | exact .head _ | apply List.Mem.tail | apply And.intro))) hz)
    | (show RdB _ _ _; refine RdB.mk' (by repeat (first | exact .head _ | apply List.Mem.tail)) (Nx.go ?_))
    | (refine AR.i64 (by omega) ?_; conv => whnf)
    | (refine AR.u64 (by omega) ?_; conv => whnf)
    | (refine AR.u8 (by omega) ?_; conv => whnf)
    | (refine Ob.mk (by omega) ?_; conv => whnf)
    | (refine BR.mk (fun h => ?_) (fun h => ?_) <;> (first | rw [Bool.not_eq_true'] at h | rw [Bool.not_eq_false'] at h | skip) <;> (try rw [h]) <;> (first | replace h := of_decide_eq_true h | replace h := of_decide_eq_false h | replace h := eq_of_beq h | replace h := bne_iff_ne.1 h | replace h := beq_eq_false_iff_ne.1 h | replace h := bne_eq_false_iff_eq.1 h | skip) <;> conv => whnf)

theorem c_mrgS1 (x y : Sli UInt64) (h : exactRight x.l = true) (h2 : exactRight y.l = true) (hl : 64 < (ofE x.l y.l).length) : Ct Tryz.prog 173 [] [.agg [x.sv], .iface 169 (.agg [y.sv])] [x.f encU 1, y.f encU 1] (Rv (.tup [.iface 171 (.agg [.int .i64 (7 : Nat), .str (mergeR (ofR 7 x.l) (ofR 7 y.l))]), .raw .nilIface])) := by
  refine Ct.of Tryz.func173 rfl (n := 48) rfl rfl rfl ?_
  conv => whnf
  repeat' first
    | (refine Ob.mk rfl ?_; conv => whnf)
    | (refine Nx.mk ?_; conv => whnf)
    | (refine BR.yes ?_; conv => whnf)
    | (refine BR.no ?_; conv => whnf)
    | (intro bk; conv => whnf)
    | (show CallK _ _ 178 _ _ _ _; refine CallK.rv (c_emB x y h h2 hl) (by repeat' (first | exact trivial | exact .head _ | apply List.Mem.tail | apply And.intro)) (Nx.go ?_))
    | (show CallK _ _ 172 _ _ _ _; refine CallK.rv (c_lowS x) (by repeat' (first | exact trivial | exact .head _ | apply List.Mem.tail | apply And.intro)) (Nx.go ?_))
    | (show CallK _ _ 172 _ _ _ _; refine CallK.rv (c_lowS y) (by repeat' (first | exact trivial | exact .head _ | apply List.Mem.tail | apply And.intro)) (Nx.go ?_))
    | (show CallK _ _ 212 _ _ _ _; refine CallK.rv (c_mrgR 7 (ofR 7 x.l) (ofR 7 y.l) (of_right x.l) (of_right y.l)) (by repeat' (first | exact trivial | exact .head _ | apply List.Mem.tail | apply And.intro)) (Nx.go ?_))
    | (show InvK _ _ _ _ _; refine InvK.mk' 212 (.agg [.int .i64 (7 : Nat), .str (ofR 7 x.l)]) (fun w => by kernel_rfl) ?_; conv => whnf)
    | (show RdB _ _ _; refine RdB.mk' (by repeat (first | exact .head _ | apply List.Mem.tail)) (Nx.go ?_))
    | (refine AR.i64 (by omega) ?_; conv => whnf)
    | (refine AR.u64 (by omega) ?_; conv => whnf)
    | (refine AR.u8 (by omega) ?_; conv => whnf)
    | (refine Ob.mk (by omega) ?_; conv => whnf)
    | (refine BR.mk (fun h => ?_) (fun h => ?_) <;> (first | rw [Bool.not_eq_true'] at h | rw [Bool.not_eq_false'] at h | skip) <;> (try rw [h]) <;> (first | replace h := of_decide_eq_true h | replace h := of_decide_eq_false h | replace h := eq_of_beq h | replace h := bne_iff_ne.1 h | replace h := beq_eq_false_iff_ne.1 h | replace h := bne_eq_false_iff_eq.1 h | skip) <;> conv => whnf)
  all_goals rfl
end Go.Proofs.YtikjigkkhdkibaaGreatDoor

/- ladder: M23 -/
namespace Go.Proofs.YtikjigkkhdkibaaGreatDoor
open Go.Proofs.YtikjigkkhdkibaaGreatDoor.W
set_option maxRecDepth 100000
set_option linter.unusedVariables false
/-- what a work holds -/
inductive Hv where
  | S (x : Sli UInt64)
  | R (b : Nat) (r : List UInt8)
  | C (L : Nat) (x : Sli UInt64)
  | G (L : Nat) (x : Sli Bin)
def Hv.ty : Hv → TypeId
  | .S _ => 169
  | .R _ _ => 171
  | .C _ _ => 173
  | .G _ _ => 175
def Hv.ag : Hv → List SV
  | .S x => [x.sv]
  | .R b r => [.int .i64 b, .str r]
  | .C L x => [.int .i64 2, .int .i64 (32 / 2 ^ L : Nat), x.sv]
  | .G L x => [.int .i64 (3 - L : Nat), x.sv]
def Hv.sv (h : Hv) : SV := .iface h.ty (.agg h.ag)
def Hv.f : Hv → Fact
  | .S x => x.f encU 1
  | .R _ r => pureF (r.length ≤ 9223372036854775807)
  | .C _ x => x.f encU 1
  | .G _ x => x.f encBin 2
def Hv.sk : Hv → Sk
  | .S x => skE x.l
  | .R b r => skR b r
  | .C L x => skC L (32 / 2 ^ L) x.l
  | .G L x => skG L (3 - L) x.l
def Hv.ok : Hv → Prop
  | .S x => exactRight x.l = true
  | .R b r => hllRight b r = true ∧ 4 ≤ b ∧ b ≤ 7
  | .C L x => L ≤ 3 ∧ cmsRight (2 : Nat) (32 / 2 ^ L : Nat) x.l = true
  | .G L x => L ≤ 3 ∧ histRight (3 - L : Nat) x.l = true
def Hv.addF : Hv → FuncId
  | .S _ => 169
  | .R _ _ => 208
  | .C _ _ => 242
  | .G _ _ => 260
def Hv.lowF : Hv → FuncId
  | .S _ => 172
  | .R _ _ => 211
  | .C _ _ => 245
  | .G _ _ => 263
def Hv.mrgF : Hv → FuncId
  | .S _ => 173
  | .R _ _ => 212
  | .C _ _ => 246
  | .G _ _ => 264
def Hv.cstF : Hv → FuncId
  | .S _ => 171
  | .R _ _ => 210
  | .C _ _ => 244
  | .G _ _ => 262
/-- it stands at the lowest rung -/
def Hv.bot (h : Hv) : Bool := decide (h.sk.level = botI h.sk.kind)

theorem inv_add (h : Hv) {q : FuncId → SV → Prop} (hq : q h.addF (.agg h.ag)) : InvK Tryz.prog h.ty "aviary/ladder.add" (.agg h.ag) q := by
  cases h
  · exact InvK.mk' _ _ (fun w => by kernel_rfl) hq
  · exact InvK.mk' _ _ (fun w => by kernel_rfl) hq
  · exact InvK.mk' _ _ (fun w => by kernel_rfl) hq
  · exact InvK.mk' _ _ (fun w => by kernel_rfl) hq
theorem inv_lower (h : Hv) {q : FuncId → SV → Prop} (hq : q h.lowF (.agg h.ag)) : InvK Tryz.prog h.ty "aviary/ladder.lower" (.agg h.ag) q := by
  cases h
  · exact InvK.mk' _ _ (fun w => by kernel_rfl) hq
  · exact InvK.mk' _ _ (fun w => by kernel_rfl) hq
  · exact InvK.mk' _ _ (fun w => by kernel_rfl) hq
  · exact InvK.mk' _ _ (fun w => by kernel_rfl) hq
theorem inv_merge (h : Hv) {q : FuncId → SV → Prop} (hq : q h.mrgF (.agg h.ag)) : InvK Tryz.prog h.ty "aviary/ladder.merge" (.agg h.ag) q := by
  cases h
  · exact InvK.mk' _ _ (fun w => by kernel_rfl) hq
  · exact InvK.mk' _ _ (fun w => by kernel_rfl) hq
  · exact InvK.mk' _ _ (fun w => by kernel_rfl) hq
  · exact InvK.mk' _ _ (fun w => by kernel_rfl) hq
theorem inv_cost (h : Hv) {q : FuncId → SV → Prop} (hq : q h.cstF (.agg h.ag)) : InvK Tryz.prog h.ty "aviary/ladder.cost" (.agg h.ag) q := by
  cases h
  · exact InvK.mk' _ _ (fun w => by kernel_rfl) hq
  · exact InvK.mk' _ _ (fun w => by kernel_rfl) hq
  · exact InvK.mk' _ _ (fun w => by kernel_rfl) hq
  · exact InvK.mk' _ _ (fun w => by kernel_rfl) hq

theorem Hv.isFn_add (h : Hv) : isFn Tryz.prog h.addF := by cases h <;> exact fun _ _ => rfl
theorem Hv.isFn_low (h : Hv) : isFn Tryz.prog h.lowF := by cases h <;> exact fun _ _ => rfl
theorem Hv.isFn_mrg (h : Hv) : isFn Tryz.prog h.mrgF := by cases h <;> exact fun _ _ => rfl
theorem Hv.isFn_cst (h : Hv) : isFn Tryz.prog h.cstF := by cases h <;> exact fun _ _ => rfl
theorem Hv.ok_of {h : Hv} (k : rightS h.sk = true) : h.ok := by
  simp only [rightS, Bool.and_eq_true, decide_eq_true_eq] at k
  obtain ⟨⟨⟨k1, k2⟩, k3⟩, k4⟩ := k
  cases h with
  | S x => exact k3
  | R b r =>
    change 0 ≤ (8 : Int) - b ∧ (8 : Int) - b ≤ botI 1 at k2
    have e : botI 1 = 4 := rfl
    rw [e] at k2
    have h8 : b ≠ 8 := by
      rintro rfl
      have := congrArg Sk.bits k4
      simp [endS, skR, Hv.sk] at this
    have hl : ¬ (Hv.R b r).sk.level = 0 := by show ¬ (8 : Int) - b = 0; omega
    have k3' : (hllRight b r && decide ((b : Int) = 8 - ((8 : Int) - b))) = true := by
      have h1 : okS (Hv.R b r).sk = (if (Hv.R b r).sk.level = 0 then exactRight [] else (hllRight b r && decide ((b : Int) = 8 - ((8 : Int) - b)))) := rfl
      rw [h1, if_neg hl] at k3
      exact k3
    rw [Bool.and_eq_true] at k3'
    exact ⟨k3'.1, by omega, by omega⟩
  | C L x =>
    change 0 ≤ (L : Int) ∧ (L : Int) ≤ botI 2 at k2
    have e : botI 2 = 3 := rfl
    rw [e] at k2
    refine ⟨by omega, ?_⟩
    have k3' : (cmsRight 2 ((32 / 2 ^ L : Nat) : Int) x.l && _ && _) = true := k3
    simp only [Bool.and_eq_true] at k3'
    exact k3'.1.1
  | G L x =>
    change 0 ≤ (L : Int) ∧ (L : Int) ≤ botI 3 at k2
    have e : botI 3 = 3 := rfl
    rw [e] at k2
    refine ⟨by omega, ?_⟩
    have k3' : (histRight ((3 - L : Nat) : Int) x.l && _) = true := k3
    simp only [Bool.and_eq_true] at k3'
    exact k3'.1

theorem mem1 {F : Fact} {Φ : Facts} : ∀ G ∈ [F], G ∈ F :: Φ := fun G h => by rw [List.mem_singleton] at h; subst h; exact .head _
theorem addR_len {b : Nat} {r : List UInt8} {u : UInt64} : (addR b r u).length = r.length := by simp [addR]

theorem c_addI (h : Hv) (hr : rightS h.sk = true) (i : Itm) : Ct Tryz.prog h.addF [] [.agg h.ag, .agg [.int .u64 i.h.toNat, .int .u64 i.n.toNat]] [h.f] (Rs (fun z : Hv => .tup [z.sv, .raw .nilIface]) (fun _ => []) (fun z => [z.f]) (fun z => z.sk = addS h.sk i)) := by
  have ho := Hv.ok_of hr
  cases h with
  | S x =>
    by_cases hl : (insU i.h x.l).length ≤ 64
    · exact (c_addS0 x ho i.h i.n hl).map .S (fun _ => rfl) (fun _ => rfl) (fun _ => rfl) fun z hz => by show skE z.l = addS (skE x.l) i; rw [addS_E, if_pos hl, hz]
    · exact ((c_addS1 x ho i.h i.n (by omega)).keep (F := (Hv.R 7 (addR 7 (ofR 7 x.l) i.h)).f) fun _ _ _ => by
        show (addR 7 (ofR 7 x.l) i.h).length ≤ _
        rw [addR_len, (hllR_bits (of_right x.l)).2.1]; decide).map (fun _ => .R 7 (addR 7 (ofR 7 x.l) i.h)) (fun _ => rfl) (fun _ => rfl) (fun _ => rfl) fun _ _ => by show skR 7 _ = addS (skE x.l) i; rw [addS_E, if_neg hl]
  | R b r =>
    exact (((c_addR b r ho.1 i.h i.n).more (Φ1 := [(Hv.R b r).f]) (by simp)).keep (F := (Hv.R b (addR b r i.h)).f) fun _ _ hh => by
        show (addR b r i.h).length ≤ _
        rw [addR_len]; exact hh _ (.head _)).map (fun _ => .R b (addR b r i.h)) (fun _ => rfl) (fun _ => rfl) (fun _ => rfl) fun _ _ => by show skR b _ = addS (skR b r) i; rw [addS_R r i (by have := ho.2; omega)]
  | C L x => exact (c_addC (32 / 2 ^ L) x ho.2 i.h i.n).map (.C L) (fun _ => rfl) (fun _ => rfl) (fun _ => rfl) fun z hz => by show skC L _ z.l = addS (skC L _ x.l) i; rw [addS_C, hz]
  | G L x => exact (c_addG (3 - L) x ho.2 i.h i.n).map (.G L) (fun _ => rfl) (fun _ => rfl) (fun _ => rfl) fun z hz => by show skG L _ z.l = addS (skG L _ x.l) i; rw [addS_G, hz]
theorem half_pow {L : Nat} (h : L ≤ 2) : 32 / 2 ^ L / 2 = 32 / 2 ^ (L + 1) ∧ 32 / 2 ^ L ≠ 4 := by
  have : L = 0 ∨ L = 1 ∨ L = 2 := by omega
  rcases this with rfl | rfl | rfl <;> decide
theorem c_lowI (h : Hv) (hr : rightS h.sk = true) (hb : h.sk.level < botI h.sk.kind) : Ct Tryz.prog h.lowF [] [.agg h.ag] [h.f] (Rs (fun z : Hv => .tup [z.sv, .raw .nilIface]) (fun _ => []) (fun z => [z.f]) (fun z => z.sk = lowS h.sk)) := by
  have ho := Hv.ok_of hr
  cases h with
  | S x =>
    exact ((c_lowS x).keep (F := (Hv.R 7 (ofR 7 x.l)).f) fun _ _ _ => by
        show (ofR 7 x.l).length ≤ _
        rw [(hllR_bits (of_right x.l)).2.1]; decide).map (fun _ => .R 7 (ofR 7 x.l)) (fun _ => rfl) (fun _ => rfl) (fun _ => rfl) fun _ _ => rfl
  | R b r =>
    exact (((c_lowR b r ho.1 ho.2.1).more (Φ1 := [(Hv.R b r).f]) (by simp)).keep (F := (Hv.R (b - 1) (lowR r)).f) fun _ _ hh => by
        show (lowR r).length ≤ _
        have h1 : r.length ≤ 9223372036854775807 := hh _ (.head _)
        rw [lowR_len]; omega).map (fun _ => .R (b - 1) (lowR r)) (fun _ => rfl) (fun _ => rfl) (fun _ => rfl) fun _ _ => by show skR (b - 1) _ = lowS (skR b r); rw [lowS_R r (by have := ho.2; omega)]
  | C L x =>
    have h3 : L ≤ 2 := by
      change (L : Int) < botI 2 at hb
      have e : botI 2 = 3 := rfl
      rw [e] at hb; omega
    have hp := half_pow h3
    exact (c_lowC (32 / 2 ^ L) x ho.2 hp.2).map (.C (L + 1)) (fun z => by show SV.tup [.iface _ (.agg [_, .int .i64 (32 / 2 ^ (L + 1) : Nat), _]), _] = _; rw [← hp.1]; rfl) (fun _ => rfl) (fun _ => rfl) fun z hz => by show skC (L + 1) _ z.l = lowS (skC L _ x.l); rw [lowS_C, hz, hp.1]
  | G L x =>
    have h3 : L ≤ 2 := by
      change (L : Int) < botI 3 at hb
      have e : botI 3 = 3 := rfl
      rw [e] at hb; omega
    have e : 3 - L = (3 - (L + 1)) + 1 := by omega
    have h1 := c_lowG (3 - (L + 1)) x (by rw [← e]; exact ho.2)
    rw [← e] at h1
    exact h1.map (.G (L + 1)) (fun _ => rfl) (fun _ => rfl) (fun _ => rfl) fun z hz => by show skG (L + 1) _ z.l = lowS (skG L _ x.l); rw [lowS_G, hz]; congr 1
/-- of one make -/
theorem c_mrgI (h k : Hv) (hr : rightS h.sk = true) (kr : rightS k.sk = true) (hk : h.sk.kind = k.sk.kind) (hl : h.sk.level = k.sk.level) : Ct Tryz.prog h.mrgF [] [.agg h.ag, k.sv] [h.f, k.f] (Rs (fun z : Hv => .tup [z.sv, .raw .nilIface]) (fun _ => []) (fun z => [z.f]) (fun z => z.sk = mrg1 h.sk k.sk)) := by
  have ho := Hv.ok_of hr
  have ko := Hv.ok_of kr
  cases h with
  | S x =>
    cases k with
    | S y =>
      by_cases hc : (ofE x.l y.l).length ≤ 64
      · exact (c_mrgS0 x y ho ko hc).map .S (fun _ => rfl) (fun _ => rfl) (fun _ => rfl) fun z hz => by show skE z.l = mrg1 (skE x.l) (skE y.l); rw [mrg_E, if_pos hc, hz]
      · exact ((c_mrgS1 x y ho ko (by omega)).keep (F := (Hv.R 7 (mergeR (ofR 7 x.l) (ofR 7 y.l))).f) fun _ _ _ => by
          show (mergeR (ofR 7 x.l) (ofR 7 y.l)).length ≤ _
          rw [mergeR, List.length_zipWith, (hllR_bits (of_right x.l)).2.1, (hllR_bits (of_right y.l)).2.1]; decide).map (fun _ => .R 7 (mergeR (ofR 7 x.l) (ofR 7 y.l))) (fun _ => rfl) (fun _ => rfl) (fun _ => rfl) fun _ _ => by show skR 7 _ = mrg1 (skE x.l) (skE y.l); rw [mrg_E, if_neg hc]
    | R b r => change (0 : Int) = 8 - b at hl; have := ko.2; omega
    | C L y => cases hk
    | G L y => cases hk
  | R b r =>
    cases k with
    | S y => change (8 : Int) - b = 0 at hl; have := ho.2; omega
    | R c t =>
      obtain rfl : b = c := by change (8 : Int) - b = 8 - c at hl; omega
      exact (((c_mrgR b r t ho.1 ko.1).more (Φ1 := [(Hv.R b r).f, (Hv.R b t).f]) (by simp)).keep (F := (Hv.R b (mergeR r t)).f) fun _ _ hh => by
        show (mergeR r t).length ≤ _
        have h1 : r.length ≤ 9223372036854775807 := hh _ (.head _)
        rw [mergeR, List.length_zipWith]; omega).map (fun _ => .R b (mergeR r t)) (fun _ => rfl) (fun _ => rfl) (fun _ => rfl) fun _ _ => by show skR b _ = mrg1 (skR b r) (skR b t); rw [mrg_R r t b (by have := ho.2; omega)]
    | C L y => cases hk
    | G L y => cases hk
  | C L x =>
    cases k with
    | S y => cases hk
    | R c t => cases hk
    | C M y =>
      obtain rfl : L = M := by change (L : Int) = M at hl; omega
      exact (c_mrgC (32 / 2 ^ L) x y ho.2 ko.2).map (.C L) (fun _ => rfl) (fun _ => rfl) (fun _ => rfl) fun z hz => by show skC L _ z.l = mrg1 (skC L _ x.l) (skC L _ y.l); rw [mrg_C, hz]
    | G M y => cases hk
  | G L x =>
    cases k with
    | S y => cases hk
    | R c t => cases hk
    | C M y => cases hk
    | G M y =>
      obtain rfl : L = M := by change (L : Int) = M at hl; omega
      exact (c_mrgG (3 - L) x y ho.2 ko.2).map (.G L) (fun _ => rfl) (fun _ => rfl) (fun _ => rfl) fun z hz => by show skG L _ z.l = mrg1 (skG L _ x.l) (skG L _ y.l); rw [mrg_G, hz]
end Go.Proofs.YtikjigkkhdkibaaGreatDoor

/- ladder: M24 -/
namespace Go.Proofs.YtikjigkkhdkibaaGreatDoor
open Go.Proofs.YtikjigkkhdkibaaGreatDoor.W
set_option maxRecDepth 100000
set_option linter.unusedVariables false
def encItm (i : Itm) : List SV := [.int .u64 i.h.toNat, .int .u64 i.n.toNat]
theorem okItm (i : Itm) : okE encItm 2 i := ⟨rfl, rfl⟩
theorem toS_succ (n : Nat) (x : Sk) : toS (n + 1) x = lowS (toS n x) := by
  induction n generalizing x with
  | zero => rfl
  | succ n ih => exact ih (lowS x)
/-- what the steps yield -/
def stepsX (s : Sk) (k lv : Int) (m : Nat) : List PubI := (List.range m).map fun (n : Nat) => ⟨Hv, fun z => [.agg [z.sv, .int .i64 k, .int .i64 (lv + n + 1)], .raw .nilIface], fun z => [z.f], fun z => z.sk = toS (n + 1) s⟩
theorem stepsX_yd {s : Sk} {k lv a : Int} {m n : Nat} (hn : n < m) {z : Hv} (hz : z.sk = toS (n + 1) s) {Φ : Facts} (hf : z.f ∈ Φ) (ha : a = lv + n + 1) : YdX (stepsX s k lv m) n [.agg [z.sv, .int .i64 k, .int .i64 a], .raw .nilIface] Φ :=
  ⟨_, z, by rw [stepsX, List.getElem?_map, List.getElem?_range hn]; rfl, hz, by rw [ha], fun F hF => by rw [List.mem_singleton] at hF; subst hF; exact hf⟩
theorem stepsX_end {s : Sk} {k lv : Int} {m i : Nat} (h : i = m) : some i = some (stepsX s k lv m).length := by rw [stepsX, List.length_map, List.length_range, h]
theorem stepsX_len {s : Sk} {k lv : Int} {m : Nat} : (stepsX s k lv m).length = m := by rw [stepsX, List.length_map, List.length_range]
theorem stepsX_at {s : Sk} {k lv : Int} {m n : Nat} {I : PubI} (h : (stepsX s k lv m)[n]? = some I) : n < m ∧ I = ⟨Hv, fun z => [.agg [z.sv, .int .i64 k, .int .i64 (lv + n + 1)], .raw .nilIface], fun z => [z.f], fun z => z.sk = toS (n + 1) s⟩ := by
  have hn : n < m := by have := (List.getElem?_eq_some_iff.1 h).1; rwa [stepsX_len] at this
  rw [stepsX, List.getElem?_map, List.getElem?_range hn] at h
  exact ⟨hn, by simpa using h.symm⟩
/-- each of so many may be lowered -/
def LowOk (s : Sk) (m : Nat) : Prop := ∀ j, j < m → rightS (toS j s) = true ∧ (toS j s).level < botI (toS j s).kind

theorem c_steps (h : Hv) (k lv ot : Int) : Ct Tryz.prog 80 [] [.agg [h.sv, .int .i64 k, .int .i64 lv], .int .i64 ot] [] (Rs (fun b : Nat × Nat => .fn 114 [] [.raw (.pointer (some ⟨b.1, 0, none⟩)), .raw (.pointer (some ⟨b.2, 0, none⟩))]) (fun b => [(b.1, .cells [h.sv, .int .i64 k, .int .i64 lv] 72), (b.2, .cells [.int .i64 ot] 3)]) (fun _ => []) (fun _ => True)) := by
  refine Ct.post (Ct.of Tryz.func80 rfl (n := 6) rfl rfl rfl ?_)
  conv => whnf
  repeat' first
    | (refine Ob.mk rfl ?_; conv => whnf)
    | (refine Nx.mk ?_; conv => whnf)
    | (intro bk; conv => whnf)
    | (show Post _ _ _ _ _; exact Rs.post (_, _) rfl (Imp.to 2 rfl (by repeat' (first | exact trivial | exact .head _ | apply List.Mem.tail | apply And.intro))) trivial)
    | (refine Ob.mk (by omega) ?_; conv => whnf)

theorem i_steps (h : Hv) (k lv ot : Int) (b1 b2 : Nat) (m : Nat) (hm : lv + m = max lv ot) (hlv : 0 ≤ lv ∧ ot ≤ 100) (hR : LowOk h.sk m) : It Tryz.prog 114 [(b1, .cells [h.sv, .int .i64 k, .int .i64 lv] 72), (b2, .cells [.int .i64 ot] 3)] [.own 1 b1 0, .own 2 b2 0] [h.f] (stepsX h.sk k lv m) (fun _ _ => True) := by
  refine It.of Tryz.func114 rfl (n := 27) rfl rfl rfl (fun lp => ?_)
  conv => whnf
  repeat' first
    | (refine Ob.mk rfl ?_; conv => whnf)
    | (refine Nx.mk ?_; conv => whnf)
    | (refine BR.yes ?_; conv => whnf)
    | (refine BR.no ?_; conv => whnf)
    | (show SemC _ _ _ (.loop (.seq (.seq (.region 0 _ _) _) _)) _ _ _ _ _; refine SemC.loopU (c := (.seq (.seq (.region 0 _ _) _) _)) (fun j : Nat × Hv × Int => []) (fun j => [(0, .seq lp (stepsX h.sk k lv m) (some j.1)), (b1, .cells [j.2.1.sv, .int .i64 k, .int .i64 j.2.2] 72), (b2, .cells [.int .i64 ot] 3)]) (fun j => [j.2.1.f]) (fun j => j.1 ≤ m ∧ j.2.1.sk = toS j.1 h.sk ∧ j.2.2 = lv + j.1) (fun j => m - j.1) (0, h, lv) ?_; (conv => whnf); refine LoopQ.mk ?_ ⟨(by repeat (first | exact trivial | refine ⟨rfl, ?_⟩ | refine ⟨congrArg (Value.int _) (by omega), ?_⟩)), Imp.refl⟩ (fun j hi => ?_); rotate_left; obtain ⟨i, z, a⟩ := j; dsimp only at hi ⊢; rotate_left)
    | (show Exists _; refine Exists.intro ((i + 1, y, a + 1)) ⟨?_, ?_, rfl, ⟨(by repeat (first | exact trivial | refine ⟨rfl, ?_⟩ | refine ⟨congrArg (Value.int _) (by omega), ?_⟩)), Imp.to 3 rfl (by repeat' (first | exact trivial | exact .head _ | apply List.Mem.tail | apply And.intro))⟩⟩)
    | (show InvK _ _ _ _ _; refine inv_lower _ ?_; conv => whnf)
    | (have h8 := hR i (by omega); rw [← hi.2.1] at h8; show CallK _ _ (Hv.lowF _) _ _ _ _; refine CallK.rf (c_lowI z h8.1 h8.2) (by repeat' (first | exact trivial | exact .head _ | apply List.Mem.tail | apply And.intro)) (fun y hy => Nx.go ?_) z.isFn_low)
    | (refine Ob.mk ⟨rfl, stepsX_yd (z := y) (by omega) (by rw [hy, toS_succ, ← hi.2.1]) (by repeat (first | exact .head _ | apply List.Mem.tail)) (by omega)⟩ ⟨Nx.go ?_, Nx.go ?_⟩)
    | (exact ⟨_, _, rfl, Or.inl rfl, trivial⟩)
    | (refine ⟨_, _, rfl, Or.inr (stepsX_end ?_), trivial⟩)
    | (refine Ob.mk ⟨rfl, YdX.fix ?_⟩ ⟨Nx.go ?_, Nx.go ?_⟩)
    | (exact ⟨_, _, rfl, Or.inl rfl, trivial⟩)
    | (refine ⟨_, _, rfl, Or.inr (fixd_end ?_), trivial⟩)
    | (show RdB _ _ _; refine RdB.mk' (by repeat (first | exact .head _ | apply List.Mem.tail)) (Nx.go ?_))
    | (refine AR.i64 (by omega) ?_; conv => whnf)
    | (refine AR.u64 (by omega) ?_; conv => whnf)
    | (refine AR.u8 (by omega) ?_; conv => whnf)
    | (refine Ob.mk (by omega) ?_; conv => whnf)
    | (refine BR.mk (fun h => ?_) (fun h => ?_) <;> (first | rw [Bool.not_eq_true'] at h | rw [Bool.not_eq_false'] at h | skip) <;> (try rw [h]) <;> (first | replace h := of_decide_eq_true h | replace h := of_decide_eq_false h | replace h := eq_of_beq h | replace h := bne_iff_ne.1 h | replace h := beq_eq_false_iff_ne.1 h | replace h := bne_eq_false_iff_eq.1 h | skip) <;> conv => whnf)
  · exact ⟨Nat.zero_le _, rfl, by simp⟩
  · exact ⟨by dsimp only; omega, by show y.sk = toS (i + 1) _; rw [hy, toS_succ, ← hi.2.1], by dsimp only; omega⟩
  · dsimp only; omega
  · omega
end Go.Proofs.YtikjigkkhdkibaaGreatDoor

/- ladder: M25 -/
namespace Go.Proofs.YtikjigkkhdkibaaGreatDoor
open Go.Proofs.YtikjigkkhdkibaaGreatDoor.W
set_option maxRecDepth 100000
set_option linter.unusedVariables false
theorem c_wto (h : Hv) (k lv ot : Int) (m : Nat) (hm : lv + m = max lv ot) (hlv : 0 ≤ lv ∧ ot ≤ 100) (hR : LowOk h.sk m) : Ct Tryz.prog 44 [] [.agg [h.sv, .int .i64 k, .int .i64 lv], .int .i64 ot] [h.f] (Rs (fun z : Hv => .tup [.agg [z.sv, .int .i64 k, .int .i64 (lv + m)], .raw .nilIface]) (fun _ => []) (fun z => [z.f]) (fun z => z.sk = toS m h.sk)) := by
  refine Ct.post (Ct.of Tryz.func44 rfl (n := 20) rfl rfl rfl ?_)
  conv => whnf
  repeat' first
    | (refine Ob.mk rfl ?_; conv => whnf)
    | (refine Nx.mk ?_; conv => whnf)
    | (refine BR.yes ?_; conv => whnf)
    | (refine BR.no ?_; conv => whnf)
    | (intro bk; conv => whnf)
    | (show CallK _ _ 80 _ _ _ _; refine CallK.rs (c_steps h k lv ot) (by repeat' (first | exact trivial | exact .head _ | apply List.Mem.tail | apply And.intro)) (fun b hb => ⟨rfl, Nx.go ?_⟩))
    | (show SemC _ _ _ (.rangeFunc _ _ (.seq (.region 3 _ _) _) _) _ _ _ _ _; refine SemC.rangeQ (σ := Hv × Int) (fun lb x => setCells (lb.take 3) 0 [x.1.sv, .int .i64 k, .int .i64 x.2]) (fun Φ x => [x.1.f]) (fun n x => x.1.sk = toS n h.sk ∧ x.2 = lv + n) (fun c x => False) (stepsX h.sk k lv m) 3 rfl (i_steps h k lv ot b.1 b.2 m hm hlv hR) ((h, lv)) ?_ (fun _ => rfl) (fun D r => Imp.selF [0, 1, 2, 5, 6, 3, 4] (And.intro rfl (And.intro rfl (And.intro rfl (And.intro rfl (And.intro rfl (And.intro rfl (And.intro rfl (trivial)))))))) rfl rfl (by repeat' (first | exact trivial | exact .head _ | apply List.Mem.tail | apply And.intro))) (by repeat' (first | exact trivial | exact .head _ | apply List.Mem.tail | apply And.intro)) rfl (fun D rc nr x I iy hx ha hI => ?_) (fun D x o hx => ?_) (fun D c x o hx => ?_))
    | (refine Nx1.mk ?_; obtain ⟨hnr, rfl⟩ := stepsX_at ha; (conv => whnf))
    | (refine Nx2.mk ?_; exact hx.elim)
    | (show EndS _ _ _ _ _ _ _; refine EndS.mark 3 rfl rfl (fun o => Nx.go ?_))
    | (refine Ob.mk ⟨rfl, rfl⟩ ?_; conv => whnf)
    | (show Exists _; refine Exists.intro ((iy, lv + nr + 1)) ⟨?_, Imp.to 5 rfl (by repeat' (first | exact trivial | exact .head _ | apply List.Mem.tail | apply And.intro))⟩)
    | (show SemC _ _ _ (.scope _) _ _ _ _ _; refine SemC.scope (fun i ds env lb Φ => False) (fun i ds env lb Φ h => h.elim) ?_; conv => whnf)
    | (show Post _ _ _ _ _; have hq := hx; rw [stepsX_len] at hq; exact Rs.post x.1 (by show SV.den _ = SV.den _; rw [hq.2]; rfl) (Imp.fs (by repeat' (first | exact trivial | exact .head _ | apply List.Mem.tail | apply And.intro))) hq.1)
    | (refine SemC.draw 8 [1] [.t 0, .m 1, .w 2, .t 3] (by kernel_rfl) (by kernel_rfl) ?_; conv => whnf)
    | (show RdB _ _ _; refine RdB.mk' (by repeat (first | exact .head _ | apply List.Mem.tail)) (Nx.go ?_))
    | (refine AR.i64 (by omega) ?_; conv => whnf)
    | (refine AR.u64 (by omega) ?_; conv => whnf)
    | (refine AR.u8 (by omega) ?_; conv => whnf)
    | (refine Ob.mk (by omega) ?_; conv => whnf)
    | (refine BR.mk (fun h => ?_) (fun h => ?_) <;> (first | rw [Bool.not_eq_true'] at h | rw [Bool.not_eq_false'] at h | skip) <;> (try rw [h]) <;> (first | replace h := of_decide_eq_true h | replace h := of_decide_eq_false h | replace h := eq_of_beq h | replace h := bne_iff_ne.1 h | replace h := beq_eq_false_iff_ne.1 h | replace h := bne_eq_false_iff_eq.1 h | skip) <;> conv => whnf)
  · exact ⟨rfl, by simp⟩
  · exact ⟨hI, by show lv + nr + 1 = lv + ((nr + 1 : Nat) : Int); omega⟩
end Go.Proofs.YtikjigkkhdkibaaGreatDoor

/- ladder: M26 -/
namespace Go.Proofs.YtikjigkkhdkibaaGreatDoor
open Go.Proofs.YtikjigkkhdkibaaGreatDoor.W
set_option maxRecDepth 100000
set_option linter.unusedVariables false
theorem right_lens {x : Sk} (h : rightS x = true) : x.e.length ≤ 1000000 ∧ x.c.length ≤ 1000000 ∧ x.g.length ≤ 1000000 ∧ x.regs.length ≤ 9223372036854775807 := by
  simp only [rightS, Bool.and_eq_true, decide_eq_true_eq] at h
  obtain ⟨⟨⟨k1, k2⟩, k3⟩, k4⟩ := h
  unfold okS at k3
  unfold endS at k4
  split at k4
  · rename_i h1
    rw [if_pos h1] at k3
    split at k4
    · rename_i h2
      rw [if_pos h2] at k3
      have := (exR_len k3).1
      have e1 := congrArg Sk.c k4
      have e2 := congrArg Sk.g k4
      have e3 := congrArg Sk.regs k4
      dsimp only at e1 e2 e3
      rw [← e1, ← e2, ← e3]
      exact ⟨by omega, by decide, by decide, by decide⟩
    · rename_i h2
      rw [if_neg h2, Bool.and_eq_true] at k3
      have := hllR_len k3.1
      have e1 := congrArg Sk.c k4
      have e2 := congrArg Sk.g k4
      have e3 := congrArg Sk.e k4
      dsimp only at e1 e2 e3
      rw [← e1, ← e2, ← e3]
      exact ⟨by decide, by decide, by decide, by omega⟩
  · rename_i h1
    rw [if_neg h1] at k3
    split at k4
    · rename_i h2
      rw [if_pos h2] at k3
      simp only [Bool.and_eq_true] at k3
      have hc := k3.1.1
      have h9 : x.c.length ≤ 128 := by
        simp only [cmsRight, isSize, Bool.and_eq_true, decide_eq_true_eq] at hc
        obtain ⟨⟨h1, h2, h3⟩, h4⟩ := hc
        have h6 : x.cols ≤ 32 := by omega
        have h7 : x.rows * x.cols ≤ 4 * 32 := Int.mul_le_mul (by omega) h6 (by omega) (by omega)
        omega
      have e1 := congrArg Sk.e k4
      have e2 := congrArg Sk.g k4
      have e3 := congrArg Sk.regs k4
      dsimp only at e1 e2 e3
      rw [← e1, ← e2, ← e3]
      exact ⟨by decide, by omega, by decide, by decide⟩
    · rename_i h2
      rw [if_neg h2, Bool.and_eq_true] at k3
      have hf : isFine x.fine = true := by
        have := k3.1
        simp only [histRight, Bool.and_eq_true] at this
        exact this.1
      have hf2 : 0 ≤ x.fine := by simp only [isFine, decide_eq_true_eq] at hf; omega
      have hg := (histR (f := x.fine.toNat) (l := x.g) (by rw [Int.toNat_of_nonneg hf2]; exact k3.1)).2.2.2
      have e1 := congrArg Sk.e k4
      have e2 := congrArg Sk.c k4
      have e3 := congrArg Sk.regs k4
      dsimp only at e1 e2 e3
      rw [← e1, ← e2, ← e3]
      exact ⟨by decide, by decide, by omega, by decide⟩
/-- what a right sketch's work holds -/
def hvOf (x : SkV) : Hv := if x.kind = 1 then (if x.level = 0 then .S x.e else .R x.bits.toNat x.regs) else if x.kind = 2 then .C x.level.toNat x.c else .G x.level.toNat x.g
theorem hvOf_ok {x : SkV} (h : rightS x.sk = true) : (hvOf x).sv = heldV x ∧ (hvOf x).sk = x.sk ∧ ∀ A w, Hold x.fs A w → (hvOf x).f.F A w := by
  have hl := right_lens h
  simp only [rightS, Bool.and_eq_true, decide_eq_true_eq] at h
  obtain ⟨⟨⟨k1, k2⟩, k3⟩, k4⟩ := h
  unfold okS at k3
  unfold endS at k4
  change x.kind = 1 ∨ x.kind = 2 ∨ x.kind = 3 at k1
  change 0 ≤ x.level ∧ x.level ≤ botI x.kind at k2
  unfold hvOf heldV
  by_cases h1 : x.kind = 1
  · rw [if_pos h1, if_pos h1]
    rw [if_pos (show x.sk.kind = 1 from h1)] at k3 k4
    by_cases h2 : x.level = 0
    · rw [if_pos h2, if_pos h2]
      rw [if_pos (show x.sk.level = 0 from h2)] at k3 k4
      refine ⟨rfl, ?_, fun A w hh => hh _ (.head _)⟩
      rw [← k4]
      show Sk.mk 1 0 x.e.l 0 [] 0 0 [] 0 [] = Sk.mk x.kind x.level x.e.l 0 [] 0 0 [] 0 []
      rw [h1, h2]
    · rw [if_neg h2, if_neg h2]
      rw [if_neg (show ¬ x.sk.level = 0 from h2)] at k3 k4
      rw [Bool.and_eq_true, decide_eq_true_eq] at k3
      have hb : x.bits = 8 - x.level := k3.2
      have e4 : botI x.kind = 4 := by rw [h1]; rfl
      have hn : ((x.bits.toNat : Nat) : Int) = x.bits := Int.toNat_of_nonneg (by omega)
      refine ⟨by show SV.iface _ (.agg [.int .i64 (x.bits.toNat : Nat), _]) = _; rw [hn]; rfl, ?_, fun A w hh => hh _ (.tail _ (.tail _ (.tail _ (.head _))))⟩
      rw [← k4]
      show Sk.mk 1 (8 - (x.bits.toNat : Nat)) [] (x.bits.toNat : Nat) x.regs 0 0 [] 0 [] = Sk.mk x.kind (8 - x.bits) [] x.bits x.regs 0 0 [] 0 []
      rw [h1, hn]
  · rw [if_neg h1, if_neg h1]
    rw [if_neg (show ¬ x.sk.kind = 1 from h1)] at k3 k4
    by_cases h2 : x.kind = 2
    · rw [if_pos h2, if_pos h2]
      rw [if_pos (show x.sk.kind = 2 from h2)] at k3 k4
      simp only [Bool.and_eq_true, decide_eq_true_eq] at k3
      have e4 : botI x.kind = 3 := by rw [h2]; rfl
      have hn : ((x.level.toNat : Nat) : Int) = x.level := Int.toNat_of_nonneg (by omega)
      have hr : x.rows = 2 := k3.1.2
      have hc : x.cols = ((32 / 2 ^ x.level.toNat : Nat) : Int) := by
        rw [show x.cols = _ from k3.2]
        show Int.fdiv 32 (2 ^ min x.level.toNat IntKind.i64.bits) = _
        have : x.level.toNat = 0 ∨ x.level.toNat = 1 ∨ x.level.toNat = 2 ∨ x.level.toNat = 3 := by omega
        rcases this with e | e | e | e <;> rw [e] <;> decide
      refine ⟨by show SV.iface _ (.agg [.int .i64 2, .int .i64 (32 / 2 ^ x.level.toNat : Nat), _]) = _; rw [← hc, hr]; rfl, ?_, fun A w hh => hh _ (.tail _ (.head _))⟩
      rw [← k4]
      show Sk.mk 2 (x.level.toNat : Nat) [] 0 [] 2 (32 / 2 ^ x.level.toNat : Nat) x.c.l 0 [] = Sk.mk x.kind x.level [] 0 [] x.rows x.cols x.c.l 0 []
      rw [h2, hn, hr, hc]
    · have h3 : x.kind = 3 := by omega
      rw [if_neg h2, if_neg h2]
      rw [if_neg (show ¬ x.sk.kind = 2 from h2)] at k3 k4
      simp only [Bool.and_eq_true, decide_eq_true_eq] at k3
      have e4 : botI x.kind = 3 := by rw [h3]; rfl
      have hn : ((x.level.toNat : Nat) : Int) = x.level := Int.toNat_of_nonneg (by omega)
      have hf : x.fine = 3 - x.level := k3.2
      have hf2 : ((3 - x.level.toNat : Nat) : Int) = x.fine := by omega
      refine ⟨by show SV.iface _ (.agg [.int .i64 (3 - x.level.toNat : Nat), _]) = _; rw [hf2]; rfl, ?_, fun A w hh => hh _ (.tail _ (.tail _ (.head _)))⟩
      rw [← k4]
      show Sk.mk 3 (x.level.toNat : Nat) [] 0 [] 0 0 [] (3 - x.level.toNat : Nat) x.g.l = Sk.mk x.kind x.level [] 0 [] 0 0 [] x.fine x.g.l
      rw [h3, hn, hf2]
theorem c_startI (x : SkV) (h : rightS x.sk = true) : Ct Tryz.prog 42 [] [x.sv] x.fs (Rs (fun _ : Unit => .tup [.agg [(hvOf x).sv, .int .i64 x.kind, .int .i64 x.level], .raw .nilIface]) (fun _ => []) (fun _ => [(hvOf x).f]) (fun _ => True)) := by
  obtain ⟨l1, l2, l3, l4⟩ := right_lens h
  obtain ⟨h1, h2, h3⟩ := hvOf_ok h
  exact (c_startT x _ l1 l2 l3 l4 h h1.symm).keep h3
theorem c_startJ (x : SkV) (h : rightS x.sk = true) : Ct Tryz.prog 42 [] [x.sv] x.fs (Rs (fun z : Hv => .tup [.agg [z.sv, .int .i64 x.kind, .int .i64 x.level], .raw .nilIface]) (fun _ => []) (fun z => [z.f]) (fun z => z.sk = x.sk)) :=
  (c_startI x h).map (fun _ => hvOf x) (fun _ => rfl) (fun _ => rfl) (fun _ => rfl) fun _ _ => (hvOf_ok h).2.1
/-- a work's end -/
theorem c_wend (h : Hv) (hr : rightS h.sk = true) (k lv : Int) (hk : k = h.sk.kind) (hl : lv = h.sk.level ∨ ∃ b r, h = .R b r) : Ct Tryz.prog 78 [] [.agg [h.sv, .int .i64 k, .int .i64 lv]] [h.f] (Rs SkV.sv (fun _ => []) SkV.fs (fun z => z.sk = h.sk)) := by
  have ho := Hv.ok_of hr
  obtain ⟨l1, l2, l3, l4⟩ := right_lens hr
  subst hk
  cases h with
  | S x =>
    have e : lv = 0 := by rcases hl with h | ⟨_, _, h⟩; exact h; cases h
    subst e
    exact c_endS x l1 1 0
  | R b r => exact (c_endR b r (by have := ho.2; omega) l4 1 lv).more (by simp)
  | C L x =>
    have e : lv = L := by rcases hl with h | ⟨_, _, h⟩; exact h; cases h
    subst e
    exact c_endC 2 _ x l2 2 L
  | G L x =>
    have e : lv = L := by rcases hl with h | ⟨_, _, h⟩; exact h; cases h
    subst e
    exact c_endH _ x l3 3 L

theorem c_ended (h : Hv) (hr : rightS h.sk = true) (k lv : Int) (hk : k = h.sk.kind) (hl : lv = h.sk.level ∨ ∃ b r, h = .R b r) : Ct Tryz.prog 43 [] [.agg [h.sv, .int .i64 k, .int .i64 lv], .raw .nilIface] [h.f] (Rs (fun z : SkV => .tup [z.sv, .int .i64 0]) (fun _ => []) SkV.fs (fun z => z.sk = h.sk)) := by
  refine Ct.post (Ct.of Tryz.func43 rfl (n := 13) rfl rfl rfl ?_)
  conv => whnf
  repeat' first
    | (refine Ob.mk rfl ?_; conv => whnf)
    | (refine Nx.mk ?_; conv => whnf)
    | (refine BR.yes ?_; conv => whnf)
    | (refine BR.no ?_; conv => whnf)
    | (intro bk; conv => whnf)
    | (show CallK _ _ 78 _ _ _ _; refine CallK.rf (c_wend h hr k lv hk hl) (by repeat' (first | exact trivial | exact .head _ | apply List.Mem.tail | apply And.intro)) (fun z hz => Nx.go ?_))
    | (show Post _ _ _ _ _; exact Rs.post z rfl (Imp.fs (by repeat' (first | exact trivial | exact .head _ | apply List.Mem.tail | apply And.intro))) hz)
    | (show RdB _ _ _; refine RdB.mk' (by repeat (first | exact .head _ | apply List.Mem.tail)) (Nx.go ?_))
    | (refine AR.i64 (by omega) ?_; conv => whnf)
    | (refine AR.u64 (by omega) ?_; conv => whnf)
    | (refine AR.u8 (by omega) ?_; conv => whnf)
    | (refine Ob.mk (by omega) ?_; conv => whnf)
    | (refine BR.mk (fun h => ?_) (fun h => ?_) <;> (first | rw [Bool.not_eq_true'] at h | rw [Bool.not_eq_false'] at h | skip) <;> (try rw [h]) <;> (first | replace h := of_decide_eq_true h | replace h := of_decide_eq_false h | replace h := eq_of_beq h | replace h := bne_iff_ne.1 h | replace h := beq_eq_false_iff_ne.1 h | replace h := bne_eq_false_iff_eq.1 h | skip) <;> conv => whnf)
end Go.Proofs.YtikjigkkhdkibaaGreatDoor
