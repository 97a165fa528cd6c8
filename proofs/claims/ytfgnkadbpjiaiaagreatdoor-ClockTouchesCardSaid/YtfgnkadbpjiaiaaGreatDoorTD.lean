/- The given statement ClockTouchesCardSaid is proved: the law returns true at every input, and every argument reads behind the call as it read before; no condition beyond the statement. -/
import Derived.Test.YtfgnkadbpjiaiaaGreatDoorTC
import Derived.Test.YtfgnkadbpjiaiaaGreatDoorCards
set_option linter.unusedVariables false
/- clock: K17 -/
namespace Go.Proofs.YtfgnkadbpjiaiaaGreatDoor
open Go.Proofs.YtfgnkadbpjiaiaaGreatDoor.W
set_option maxRecDepth 100000
set_option linter.unusedVariables false
theorem Lab.eq_iff {a b : Lab} : a = b ↔ a.name = b.name ∧ a.value = b.value := by cases a; cases b; simp
theorem two_all {x y : List SerV} {i j : Nat} {a b : SerV} (ha : x[i]? = some a) (hb : y[j]? = some b) (A : Nat → Prop) (w : World) (hh : Hold [allF x, allF y] A w) : Hold (a.fs ++ b.fs) A w := by
  intro F hF
  rcases List.mem_append.1 hF with hF | hF
  · exact hh (allF x) (.head _) a (List.mem_of_getElem? ha) F hF
  · exact hh (allF y) (.tail _ (.head _)) b (List.mem_of_getElem? hb) F hF

theorem c_eqL (a b : Sli Lab) : Ct Tryz.prog 34 [] [a.sv, b.sv] [a.f encLab 2, b.f encLab 2] (Rv (.bool (decide (a.l = b.l)))) := by
  refine Ct.len (enc := encLab) (L := a.l) (List.Mem.head _) fun ha => ?_
  refine Ct.of Tryz.func34 rfl (n := 26) rfl rfl rfl ?_
  conv => whnf
  repeat' first
    | (refine Ob.mk rfl ?_; conv => whnf)
    | (refine Nx.mk ?_; conv => whnf)
    | (refine BR.yes ?_; conv => whnf)
    | (refine BR.no ?_; conv => whnf)
    | (show SemC _ _ _ (.loop (.seq (.region 4 _ _) _)) _ _ _ _ _; refine SemC.loopC (c := (.seq (.region 4 _ _) _)) (fun i : Nat => [(13, .int .i64 i)]) (fun i => i ≤ a.l.length ∧ a.l.length = b.l.length ∧ a.l.take i = b.l.take i) (fun i => a.l.length - i) 0 ?_; (conv => whnf); refine LoopQ.mk ?_ ⟨(by repeat (first | exact trivial | refine ⟨rfl, ?_⟩ | refine ⟨congrArg (Value.int _) (by omega), ?_⟩)), Imp.refl⟩ (fun i hi => ?_))
    | (show Exists _; refine Exists.intro (i + 1) ⟨?_, ?_, rfl, ⟨(by repeat (first | exact trivial | refine ⟨rfl, ?_⟩ | refine ⟨congrArg (Value.int _) (by omega), ?_⟩)), Imp.refl⟩⟩)
    | (refine BinS.agg 5 (by kernel_rfl) ?_; conv => whnf)
    | (refine Ob.mk ⟨by kernel_rfl, by kernel_rfl⟩ ?_; conv => whnf)
    | (refine SemC.draw 6 [] [.t 0, .t 1, .t 2, .t 3, .t 4, .t 5, .t 6, .t 7, .t 8] (by kernel_rfl) (by kernel_rfl) ?_; conv => whnf)
    | (refine Idx.nat ?_; conv => whnf)
    | (refine Idx.is _ rfl ?_; conv => whnf)
    | (show HasP _ _ _ _ _ _; refine HasP.mk' (by repeat (first | exact .head _ | apply List.Mem.tail)) (Nx.go ?_))
    | (show RdE _ _ _ _ _ _ _; refine RdE.s (by repeat (first | exact .head _ | apply List.Mem.tail)) (by omega) (fun xe hxe => Nx.go ?_))
    | (show RdB _ _ _; refine RdB.mk' (by repeat (first | exact .head _ | apply List.Mem.tail)) (Nx.go ?_))
    | (refine AR.i64 (by omega) ?_; conv => whnf)
    | (refine AR.u64 (by omega) ?_; conv => whnf)
    | (refine AR.u8 (by omega) ?_; conv => whnf)
    | (refine Ob.mk (by omega) ?_; conv => whnf)
    | (refine BR.mk (fun h => ?_) (fun h => ?_) <;> (first | rw [Bool.not_eq_true'] at h | rw [Bool.not_eq_false'] at h | skip) <;> (try rw [h]) <;> (first | replace h := of_decide_eq_true h | replace h := of_decide_eq_false h | replace h := eq_of_beq h | replace h := bne_iff_ne.1 h | replace h := beq_eq_false_iff_ne.1 h | replace h := bne_eq_false_iff_eq.1 h | skip) <;> conv => whnf)
  all_goals try (simp only [resS, SV.bool.injEq, eq_comm (a := false), eq_comm (a := true), decide_eq_false_iff_not, decide_eq_true_eq] at *)
  all_goals grind [List.take_add_one, Lab.eq_iff]

theorem c_same1 (x y : SerV) : Ct Tryz.prog 33 [] [.agg (encSer x), .agg (encSer y)] (x.fs ++ y.fs) (Rv (.bool (decide (x.ser = y.ser)))) := by
  refine Ct.of Tryz.func33 rfl (n := 24) rfl rfl rfl ?_
  conv => whnf
  repeat' first
    | (refine Ob.mk rfl ?_; conv => whnf)
    | (refine Nx.mk ?_; conv => whnf)
    | (refine BR.yes ?_; conv => whnf)
    | (refine BR.no ?_; conv => whnf)
    | (intro bk; conv => whnf)
    | (show CallK _ _ 34 _ _ _ _; refine CallK.rv (c_eqL x.L y.L) (by repeat' (first | exact trivial | exact .head _ | apply List.Mem.tail | apply And.intro)) (Nx.go ?_))
    | (show CallK _ _ 35 _ _ _ _; refine CallK.rv (c_same x.S y.S) (by repeat' (first | exact trivial | exact .head _ | apply List.Mem.tail | apply And.intro)) (Nx.go ?_))
    | (show RdB _ _ _; refine RdB.mk' (by repeat (first | exact .head _ | apply List.Mem.tail)) (Nx.go ?_))
    | (refine AR.i64 (by omega) ?_; conv => whnf)
    | (refine AR.u64 (by omega) ?_; conv => whnf)
    | (refine AR.u8 (by omega) ?_; conv => whnf)
    | (refine Ob.mk (by omega) ?_; conv => whnf)
    | (refine BR.mk (fun h => ?_) (fun h => ?_) <;> (first | rw [Bool.not_eq_true'] at h | rw [Bool.not_eq_false'] at h | skip) <;> (try rw [h]) <;> (first | replace h := of_decide_eq_true h | replace h := of_decide_eq_false h | replace h := eq_of_beq h | replace h := bne_iff_ne.1 h | replace h := beq_eq_false_iff_ne.1 h | replace h := bne_eq_false_iff_eq.1 h | skip) <;> conv => whnf)
  all_goals (simp only [resS, SV.bool.injEq, SerV.ser, Ser.mk.injEq]; grind [UInt64.toNat_inj])

theorem c_eqFS (a b : Sli SerV) : Ct Tryz.prog 32 [] [a.sv, b.sv, .fn 33 [] []] [a.f encSer 12, b.f encSer 12, allF a.l, allF b.l] (Rv (.bool (decide (Tab a = Tab b)))) := by
  refine Ct.len (enc := encSer) (L := a.l) (List.Mem.head _) fun ha => ?_
  refine Ct.of Tryz.func32 rfl (n := 32) rfl rfl rfl ?_
  conv => whnf
  repeat' first
    | (show RdE _ b.p _ _ _ _ _; refine RdE.s (x := b) (by repeat (first | exact .head _ | apply List.Mem.tail)) (by omega) (fun ye hye => Nx.go ?_))
    | (refine Ob.mk rfl ?_; conv => whnf)
    | (refine Nx.mk ?_; conv => whnf)
    | (refine BR.yes ?_; conv => whnf)
    | (refine BR.no ?_; conv => whnf)
    | (intro bk; conv => whnf)
    | (show CallK _ _ _ _ _ _ _; refine CallK.rv (ct_facts (c_same1 xe ye) (two_all hxe hye)) (by repeat' (first | exact trivial | exact .head _ | apply List.Mem.tail | apply And.intro)) (Nx.go ?_))
    | (show SemC _ _ _ (.loop (.seq (.region 4 _ _) _)) _ _ _ _ _; refine SemC.loopB (c := (.seq (.region 4 _ _) _)) (fun i : Nat => [(17, .int .i64 i)]) (fun i => []) (fun i => i ≤ a.l.length ∧ a.l.length = b.l.length ∧ (Tab a).take i = (Tab b).take i) (fun i => a.l.length - i) 0 ?_; (conv => whnf); refine LoopQ.mk ?_ ⟨(by repeat (first | exact trivial | refine ⟨rfl, ?_⟩ | refine ⟨congrArg (Value.int _) (by omega), ?_⟩)), Imp.refl⟩ (fun i hi => ?_))
    | (show Exists _; refine Exists.intro (i + 1) ⟨?_, ?_, rfl, ⟨(by repeat (first | exact trivial | refine ⟨rfl, ?_⟩ | refine ⟨congrArg (Value.int _) (by omega), ?_⟩)), Imp.to 0 rfl (by repeat' (first | exact trivial | exact .head _ | apply List.Mem.tail | apply And.intro))⟩⟩)
    | (refine Idx.nat ?_; conv => whnf)
    | (refine Idx.is _ rfl ?_; conv => whnf)
    | (show HasP _ _ _ _ _ _; refine HasP.mk' (by repeat (first | exact .head _ | apply List.Mem.tail)) (Nx.go ?_))
    | (show RdE _ _ _ _ _ _ _; refine RdE.s (by repeat (first | exact .head _ | apply List.Mem.tail)) (by omega) (fun xe hxe => Nx.go ?_))
    | (show RdB _ _ _; refine RdB.mk' (by repeat (first | exact .head _ | apply List.Mem.tail)) (Nx.go ?_))
    | (refine AR.i64 (by omega) ?_; conv => whnf)
    | (refine AR.u64 (by omega) ?_; conv => whnf)
    | (refine AR.u8 (by omega) ?_; conv => whnf)
    | (refine Ob.mk (by omega) ?_; conv => whnf)
    | (refine BR.mk (fun h => ?_) (fun h => ?_) <;> (first | rw [Bool.not_eq_true'] at h | rw [Bool.not_eq_false'] at h | skip) <;> (try rw [h]) <;> (first | replace h := of_decide_eq_true h | replace h := of_decide_eq_false h | replace h := eq_of_beq h | replace h := bne_iff_ne.1 h | replace h := beq_eq_false_iff_ne.1 h | replace h := bne_eq_false_iff_eq.1 h | skip) <;> conv => whnf)
  · exact congrArg SV.bool (decide_eq_false (fun e => h (by have h9 := congrArg List.length e; simp only [Tab, List.length_map] at h9; omega))).symm
  · exact ⟨Nat.zero_le _, by omega, rfl⟩
  · exact congrArg SV.bool (decide_eq_false (fun e => h (by have h1 := tab_at hxe; rw [e, tab_at hye] at h1; exact (Option.some.inj h1).symm))).symm
  · exact ⟨by omega, hi.2.1, by rw [take_snoc (tab_at hxe), take_snoc (tab_at hye), hi.2.2, h]⟩
  · omega
  · exact congrArg SV.bool (decide_eq_true (by have h1 := hi.2.2; rwa [take_all (by rw [Tab, List.length_map]; omega), take_all (by rw [Tab, List.length_map]; omega)] at h1)).symm

theorem c_sameT (a b : Sli SerV) : Ct Tryz.prog 13 [] [a.sv, b.sv] [a.f encSer 12, b.f encSer 12, allF a.l, allF b.l] (Rv (.bool (decide (Tab a = Tab b)))) := by
  refine Ct.of Tryz.func13 rfl (n := 8) rfl rfl rfl ?_
  conv => whnf
  repeat' first
    | (refine Ob.mk rfl ?_; conv => whnf)
    | (refine Nx.mk ?_; conv => whnf)
    | (show CallK _ _ 32 _ _ _ _; refine CallK.rv (c_eqFS a b) (by repeat' (first | exact trivial | exact .head _ | apply List.Mem.tail | apply And.intro)) (Nx.go ?_))
    | (refine Ob.mk (by omega) ?_; conv => whnf)
  rfl
end Go.Proofs.YtfgnkadbpjiaiaaGreatDoor

/- clock: K18 -/
namespace Go.Proofs.YtfgnkadbpjiaiaaGreatDoor
open Go.Proofs.YtfgnkadbpjiaiaaGreatDoor.W
set_option maxRecDepth 100000
set_option linter.unusedVariables false
theorem bl_trans : ∀ {a b c : List UInt8}, Op.bytesLess a b = true → Op.bytesLess b c = true → Op.bytesLess a c = true
  | _, [], _, h, _ => by simp [Op.bytesLess] at h
  | _, _ :: _, [], _, h => by simp [Op.bytesLess] at h
  | [], _ :: _, _ :: _, _, _ => rfl
  | x :: a, y :: b, z :: c, h1, h2 => by
    simp only [Op.bytesLess, Bool.or_eq_true, Bool.and_eq_true, decide_eq_true_eq, beq_iff_eq] at h1 h2 ⊢
    rcases h1 with h1 | ⟨rfl, h1⟩
    · rcases h2 with h2 | ⟨rfl, h2⟩
      · exact .inl (UInt8.lt_trans h1 h2)
      · exact .inl h1
    · rcases h2 with h2 | ⟨rfl, h2⟩
      · exact .inl h2
      · exact .inr ⟨rfl, bl_trans h1 h2⟩
/-- a way to compare: what comes to nothing is the same; less is carried on -/
structure CmpOk {α : Type} (c : α → α → Int) : Prop where
  eq : ∀ {a b}, c a b = 0 → a = b
  tr : ∀ {a b d}, c a b < 0 → c b d < 0 → c a d < 0
theorem cmpS_neg {a b : List UInt8} : cmpS a b < 0 ↔ Op.bytesLess a b = true := by
  unfold cmpS
  split
  · exact ⟨fun _ => by assumption, fun _ => by decide⟩
  · rename_i h
    exact ⟨fun h2 => by split at h2 <;> exact absurd h2 (by decide), fun h2 => absurd h2 h⟩
theorem cmpS_ok : CmpOk cmpS where
  eq := by
    intro a b h
    unfold cmpS at h
    split at h
    · exact absurd h (by decide)
    · split at h
      · rename_i h1 h2
        simp only [Bool.or_eq_true, decide_eq_true_eq] at h2
        exact h2.resolve_left h1
      · exact absurd h (by decide)
  tr := fun h1 h2 => cmpS_neg.2 (bl_trans (cmpS_neg.1 h1) (cmpS_neg.1 h2))
theorem cmpL_ok : CmpOk cmpL where
  eq := by
    intro a b h
    unfold cmpL orI at h
    split at h
    · rename_i h1
      exact Lab.eq_iff.2 ⟨cmpS_ok.eq h1, cmpS_ok.eq h⟩
    · rename_i h1
      exact absurd h h1
  tr := by
    intro a b d h1 h2
    unfold cmpL orI at h1 h2 ⊢
    split at h1
    · rename_i e1
      rw [← cmpS_ok.eq e1] at h2
      split at h2
      · rename_i e2
        rw [if_pos e2]; exact cmpS_ok.tr h1 h2
      · rename_i e2
        rw [if_neg e2]; exact h2
    · rename_i e1
      split at h2
      · rename_i e2
        rw [← cmpS_ok.eq e2, if_neg e1]; exact h1
      · have h3 := cmpS_ok.tr h1 h2
        rw [if_neg (by omega)]; exact h3
theorem cmpLs_tr : ∀ {a b d : List Lab}, cmpLs a b < 0 → cmpLs b d < 0 → cmpLs a d < 0
  | [], [], _, h, _ => absurd h (by decide)
  | _ :: _, [], _, h, _ => absurd (show (1 : Int) < 0 from h) (by decide)
  | _, _ :: _, [], _, h => absurd (show (1 : Int) < 0 from h) (by decide)
  | [], _ :: _, _ :: _, _, _ => show (-1 : Int) < 0 by decide
  | x :: a, y :: b, z :: c, h1, h2 => by
    rw [cmpLs] at h1 h2 ⊢
    split at h1
    · rename_i e1
      rw [← cmpL_ok.eq e1] at h2
      split at h2
      · rename_i e2
        rw [if_pos e2]; exact cmpLs_tr h1 h2
      · rename_i e2
        rw [if_neg e2]; exact h2
    · rename_i e1
      split at h2
      · rename_i e2
        rw [← cmpL_ok.eq e2, if_neg e1]; exact h1
      · have h3 := cmpL_ok.tr h1 h2
        rw [if_neg (by omega)]; exact h3
theorem lessL_tr {a b d : List Lab} (h1 : lessL a b = true) (h2 : lessL b d = true) : lessL a d = true := decide_eq_true (cmpLs_tr (of_decide_eq_true h1) (of_decide_eq_true h2))
theorem risesT_pw : ∀ t : List Ser, risesT t = true ↔ List.Pairwise (fun a b : Ser => lessL a.l b.l = true) t
  | [] => by simp [risesT]
  | [a] => by simp [risesT]
  | a :: b :: l => by
    rw [risesT, Bool.and_eq_true, risesT_pw (b :: l), List.pairwise_cons (a := a)]
    refine ⟨fun ⟨h1, h2⟩ => ⟨fun c hc => ?_, h2⟩, fun ⟨h1, h2⟩ => ⟨h1 b (.head _), h2⟩⟩
    rcases List.mem_cons.1 hc with rfl | hc
    · exact h1
    · exact lessL_tr h1 ((List.pairwise_cons.1 h2).1 c hc)
/-- a part of a table, in its order, is a table -/
theorem tabR_sub {t u : List Ser} (h : u.Sublist t) (ht : tabR t = true) : tabR u = true := by
  simp only [tabR, Bool.and_eq_true, decide_eq_true_eq, List.all_eq_true] at ht ⊢
  exact ⟨⟨Nat.le_trans h.length_le ht.1.1, fun x hx => ht.1.2 x (h.subset hx)⟩, (risesT_pw u).2 (((risesT_pw t).1 ht.2).sublist h)⟩
theorem keepS_sub (now life : UInt64) (t : List Ser) : (keepS now life t).Sublist t := List.filter_sublist
theorem tabR_keep {now life : UInt64} {t u : List Ser} (h : u = keepS now life t) (ht : tabR t = true) : tabR u = true := by rw [h]; exact tabR_sub (keepS_sub ..) ht
theorem small_keep {now life : UInt64} {t u : List Ser} (h : u = keepS now life t) (hs : smallT t) : smallT u := fun x hx => hs x (by rw [h] at hx; exact (keepS_sub ..).subset hx)
theorem keep_not {now life : UInt64} {y : Sli SerV} {t : List Ser} (h : Tab y = keepS now life t) {i : Nat} {x : SerV} (hx : y.l[i]? = some x) : staleS now life x.ser = false := by
  have h1 := List.mem_of_getElem? (tab_at hx)
  rw [h, keepS, List.mem_filter] at h1
  simpa using h1.2
theorem keep_keep {a b life : UInt64} {t : List Ser} (h : a.toNat ≤ b.toNat) : keepS b life (keepS a life t) = keepS b life t := by
  rw [keepS, keepS, List.filter_filter, keepS]
  refine List.filter_congr fun s _ => ?_
  rcases h1 : staleS b life s
  · rcases h2 : staleS a life s
    · rfl
    · rw [stale_mono h (Nat.le_refl _) h2] at h1; cases h1
  · rfl
theorem once_eq {now life : UInt64} {t u v : List Ser} (h1 : u = keepS now life t) (h2 : v = keepS now life u) : u = v := by rw [h2, h1, keep_keep (Nat.le_refl _)]
end Go.Proofs.YtfgnkadbpjiaiaaGreatDoor

/- clock: K22 -/
namespace Go.Proofs.YtfgnkadbpjiaiaaGreatDoor
open Go.Proofs.YtfgnkadbpjiaiaaGreatDoor.W
set_option maxRecDepth 100000
set_option linter.unusedVariables false
/-- a call ahead of which rows of one's own are given up -/
theorem CallK.rvP {P : Program} {lb lb' : LBs} {Φ Φ' : Facts} {f : FuncId} {args args' : List SV} {Φ0 : Facts} {v : SV} {q : SV → LBs → Facts → Prop} (hi : Imp P lb Φ lb' Φ') (h : Ct P f [] args' Φ0 (Rv v)) (ha : dens args' = dens args) (hΦ : SubK Φ0 Φ') (hq : q v lb' Φ') (hf : isFn P f := by exact fun _ _ => rfl) : CallK P none f args lb Φ q := by
  refine ⟨.inl ⟨hf, ⟨fun ω w hr => ?_⟩⟩⟩
  have h1 := (CallS.rv (kp := none) h hΦ.ok hq).h ω w (hi ω w hr)
  rw [ha] at h1
  exact Calls.mono h1 fun e w' ⟨v, lb', Φ', he, hq, hr, _⟩ => ⟨v, lb', Φ', he, hq, hr, trivial⟩
theorem Imp.all3 {P : Program} {lb : LBs} {Φ : Facts} {l : List SerV} {k : Nat} {x0 : SerV} {a : UInt64} (h0 : l[k]? = some x0) (hm : allF l ∈ Φ) : Imp P lb Φ lb (allF (l.set k {x0 with seen := a}) :: Φ) := Imp.fact fun A w hh v hv => by
  rcases List.mem_or_eq_of_mem_set hv with hv | rfl
  · exact hh _ hm v hv
  · exact hh _ hm x0 (List.mem_of_getElem? h0)
theorem set_ser {l : List SerV} {t : List Ser} {k : Nat} {s x0 : SerV} {a : UInt64} (hl : l.map SerV.ser = t) (hs : t[k]? = some s.ser) (h0 : l[k]? = some x0) : (l.set k {x0 with seen := a}).map SerV.ser = t.set k {s.ser with seen := a} := by
  have h1 : t[k]? = some x0.ser := by rw [← hl]; simp [h0]
  rw [List.map_set, hl]
  rw [hs] at h1
  rw [Option.some.inj h1]; rfl
theorem touch_cases (z : Sli SerV) (at_ : Int) (now : UInt64) : tabR (Tab z) = false ∨ (tabR (Tab z) = true ∧ (at_ < 0 ∨ (z.l.length : Int) ≤ at_)) ∨ (tabR (Tab z) = true ∧ ∃ (k : Nat) (s : SerV), at_ = k ∧ z.l[k]? = some s ∧ now.toNat < s.seen.toNat) ∨ (tabR (Tab z) = true ∧ ∃ (k : Nat) (s : SerV), at_ = k ∧ z.l[k]? = some s ∧ s.seen.toNat ≤ now.toNat) := by
  rcases ht : tabR (Tab z)
  · exact .inl rfl
  · refine .inr ?_
    by_cases h : at_ < 0 ∨ (z.l.length : Int) ≤ at_
    · exact .inl ⟨rfl, h⟩
    · refine .inr ?_
      obtain ⟨k, rfl⟩ : ∃ k : Nat, at_ = k := ⟨at_.toNat, by omega⟩
      obtain ⟨s, hs⟩ : ∃ s, z.l[k]? = some s := ⟨_, List.getElem?_eq_getElem (by omega)⟩
      by_cases h2 : now.toNat < s.seen.toNat
      · exact .inl ⟨rfl, k, s, rfl, hs, h2⟩
      · exact .inr ⟨rfl, k, s, rfl, hs, by omega⟩

theorem c_tch1 (z : Sli SerV) (k : Int) (now : UInt64) (hs : smallT (Tab z)) (ht : tabR (Tab z) = false) : Ct Tryz.prog 12 [] [z.sv, .int .i64 k, .int .u64 now.toNat] [z.f encSer 12, allF z.l] (Rv (.tup [.raw (.slice none 0 0), .int .i64 120])) := by
  refine Ct.of Tryz.func12 rfl (n := 56) rfl rfl rfl ?_
  conv => whnf
  repeat' first
    | (show SemO _ _ (.buildSlice _ _ #[(0, .tmp 27)]) _ _ _ _ _; refine SemO.lit ?_; (conv => whnf); show BsV _ _ _ _ _; refine BsV.s [(120 : Int)] (by repeat (first | exact .nil | refine .cons (by first | rfl | exact encB_of (by omega) | exact encU_U (by omega)) ?_)) (fun xo _ => okI xo) (fun ys hys => Nx.go ?_))
    | (refine Ob.mk rfl ?_; conv => whnf)
    | (refine Nx.mk ?_; conv => whnf)
    | (refine BR.yes ?_; conv => whnf)
    | (refine BR.no ?_; conv => whnf)
    | (intro bk; conv => whnf)
    | (show CallK _ _ 26 _ _ _ _; refine CallK.rv (c_cchkN z hs ht) (by repeat' (first | exact trivial | exact .head _ | apply List.Mem.tail | apply And.intro)) (Nx.go ?_))
    | (show CallK _ _ 25 _ _ _ _; refine CallK.rv (c_firstN ys 120 (by decide) hys) (by repeat' (first | exact trivial | exact .head _ | apply List.Mem.tail | apply And.intro)) (Nx.go ?_))
    | (show CallK _ _ 27 _ _ _ _; refine CallK.rv (c_ctold 120) (by repeat' (first | exact trivial | exact .head _ | apply List.Mem.tail | apply And.intro)) (Nx.go ?_))
    | (refine Idx.nat ?_; conv => whnf)
    | (refine Idx.is _ rfl ?_; conv => whnf)
    | (show HasP _ _ _ _ _ _; refine HasP.mk' (by repeat (first | exact .head _ | apply List.Mem.tail)) (Nx.go ?_))
    | (show RdE _ _ _ _ _ _ _; refine RdE.s (by repeat (first | exact .head _ | apply List.Mem.tail)) (by omega) (fun xe hxe => Nx.go ?_))
    | (show RdB _ _ _; refine RdB.mk' (by repeat (first | exact .head _ | apply List.Mem.tail)) (Nx.go ?_))
    | (refine AR.i64 (by omega) ?_; conv => whnf)
    | (refine AR.u64 (by omega) ?_; conv => whnf)
    | (refine AR.u8 (by omega) ?_; conv => whnf)
    | (refine Ob.mk (by omega) ?_; conv => whnf)
    | (refine BR.mk (fun h => ?_) (fun h => ?_) <;> (first | rw [Bool.not_eq_true'] at h | rw [Bool.not_eq_false'] at h | skip) <;> (try rw [h]) <;> (first | replace h := of_decide_eq_true h | replace h := of_decide_eq_false h | replace h := eq_of_beq h | replace h := bne_iff_ne.1 h | replace h := beq_eq_false_iff_ne.1 h | replace h := bne_eq_false_iff_eq.1 h | skip) <;> conv => whnf)
  all_goals rfl

theorem c_tch2 (z : Sli SerV) (k : Int) (now : UInt64) (hs : smallT (Tab z)) (ht : tabR (Tab z) = true) (hk : k < 0 ∨ (z.l.length : Int) ≤ k) : Ct Tryz.prog 12 [] [z.sv, .int .i64 k, .int .u64 now.toNat] [z.f encSer 12, allF z.l] (Rv (.tup [.raw (.slice none 0 0), .int .i64 120])) := by
  refine Ct.of Tryz.func12 rfl (n := 56) rfl rfl rfl ?_
  conv => whnf
  repeat' first
    | (show SemO _ _ (.buildSlice _ _ #[(0, .tmp 27)]) _ _ _ _ _; refine SemO.lit ?_; (conv => whnf); show BsV _ _ _ _ _; refine BsV.s [(120 : Int)] (by repeat (first | exact .nil | refine .cons (by first | rfl | exact encB_of (by omega) | exact encU_U (by omega)) ?_)) (fun xo _ => okI xo) (fun ys hys => Nx.go ?_))
    | (show BR (decide ((z.l.length : Int) ≤ k)) _ _; refine BR.yesK (decide_eq_true (by omega)) ?_; conv => whnf)
    | (refine Ob.mk rfl ?_; conv => whnf)
    | (refine Nx.mk ?_; conv => whnf)
    | (refine BR.yes ?_; conv => whnf)
    | (refine BR.no ?_; conv => whnf)
    | (intro bk; conv => whnf)
    | (show CallK _ _ 26 _ _ _ _; refine CallK.rv (c_cchkT z hs ht) (by repeat' (first | exact trivial | exact .head _ | apply List.Mem.tail | apply And.intro)) (Nx.go ?_))
    | (show CallK _ _ 25 _ _ _ _; refine CallK.rv (c_firstN ys 120 (by decide) hys) (by repeat' (first | exact trivial | exact .head _ | apply List.Mem.tail | apply And.intro)) (Nx.go ?_))
    | (show CallK _ _ 27 _ _ _ _; refine CallK.rv (c_ctold 120) (by repeat' (first | exact trivial | exact .head _ | apply List.Mem.tail | apply And.intro)) (Nx.go ?_))
    | (refine Idx.nat ?_; conv => whnf)
    | (refine Idx.is _ rfl ?_; conv => whnf)
    | (show HasP _ _ _ _ _ _; refine HasP.mk' (by repeat (first | exact .head _ | apply List.Mem.tail)) (Nx.go ?_))
    | (show RdE _ _ _ _ _ _ _; refine RdE.s (by repeat (first | exact .head _ | apply List.Mem.tail)) (by omega) (fun xe hxe => Nx.go ?_))
    | (show RdB _ _ _; refine RdB.mk' (by repeat (first | exact .head _ | apply List.Mem.tail)) (Nx.go ?_))
    | (refine AR.i64 (by omega) ?_; conv => whnf)
    | (refine AR.u64 (by omega) ?_; conv => whnf)
    | (refine AR.u8 (by omega) ?_; conv => whnf)
    | (refine Ob.mk (by omega) ?_; conv => whnf)
    | (refine BR.mk (fun h => ?_) (fun h => ?_) <;> (first | rw [Bool.not_eq_true'] at h | rw [Bool.not_eq_false'] at h | skip) <;> (try rw [h]) <;> (first | replace h := of_decide_eq_true h | replace h := of_decide_eq_false h | replace h := eq_of_beq h | replace h := bne_iff_ne.1 h | replace h := beq_eq_false_iff_ne.1 h | replace h := bne_eq_false_iff_eq.1 h | skip) <;> conv => whnf)
  all_goals first | rfl | omega

theorem c_tch3 (z : Sli SerV) (k : Nat) (s : SerV) (hx : z.l[k]? = some s) (now : UInt64) (hs : smallT (Tab z)) (ht : tabR (Tab z) = true) (hsn : now.toNat < s.seen.toNat) : Ct Tryz.prog 12 [] [z.sv, .int .i64 k, .int .u64 now.toNat] [z.f encSer 12, allF z.l] (Rv (.tup [.raw (.slice none 0 0), .int .i64 140])) := by
  have hk := (List.getElem?_eq_some_iff.1 hx).1
  refine Ct.of Tryz.func12 rfl (n := 56) rfl rfl rfl ?_
  conv => whnf
  repeat' first
    | (show SemO _ _ (.buildSlice _ _ #[(0, .tmp 27)]) _ _ _ _ _; refine SemO.lit ?_; (conv => whnf); show BsV _ _ _ _ _; refine BsV.s [(0 : Int)] (by repeat (first | exact .nil | refine .cons (by first | rfl | exact encB_of (by omega) | exact encU_U (by omega)) ?_)) (fun xo _ => okI xo) (fun ys hys => Nx.go ?_))
    | (show BR (decide ((k : Int) < 0)) _ _; refine BR.noK (decide_eq_false (by omega)) ?_; conv => whnf)
    | (show BR (decide ((z.l.length : Int) ≤ (k : Int))) _ _; refine BR.noK (decide_eq_false (by omega)) ?_; conv => whnf)
    | (show BR (decide (now.toNat < xe.seen.toNat)) _ _; refine BR.yesK (decide_eq_true (by rw [show xe = s from Option.some.inj (hxe.symm.trans hx)]; exact hsn)) ?_; conv => whnf)
    | (refine Ob.mk rfl ?_; conv => whnf)
    | (refine Nx.mk ?_; conv => whnf)
    | (refine BR.yes ?_; conv => whnf)
    | (refine BR.no ?_; conv => whnf)
    | (intro bk; conv => whnf)
    | (show CallK _ _ 26 _ _ _ _; refine CallK.rv (c_cchkT z hs ht) (by repeat' (first | exact trivial | exact .head _ | apply List.Mem.tail | apply And.intro)) (Nx.go ?_))
    | (show CallK _ _ 25 _ _ _ _; refine CallK.rv (c_firstT ys hys) (by repeat' (first | exact trivial | exact .head _ | apply List.Mem.tail | apply And.intro)) (Nx.go ?_))
    | (show CallK _ _ 27 _ _ _ _; refine CallK.rv (c_ctold 140) (by repeat' (first | exact trivial | exact .head _ | apply List.Mem.tail | apply And.intro)) (Nx.go ?_))
    | (show CallK _ _ 31 _ _ _ _; refine CallK.rv (c_since xe.seen now) (by repeat' (first | exact trivial | exact .head _ | apply List.Mem.tail | apply And.intro)) (Nx.go ?_))
    | (refine Idx.nat ?_; conv => whnf)
    | (refine Idx.is _ rfl ?_; conv => whnf)
    | (show HasP _ _ _ _ _ _; refine HasP.mk' (by repeat (first | exact .head _ | apply List.Mem.tail)) (Nx.go ?_))
    | (show RdE _ _ _ _ _ _ _; refine RdE.s (by repeat (first | exact .head _ | apply List.Mem.tail)) (by omega) (fun xe hxe => Nx.go ?_))
    | (show RdB _ _ _; refine RdB.mk' (by repeat (first | exact .head _ | apply List.Mem.tail)) (Nx.go ?_))
    | (refine AR.i64 (by omega) ?_; conv => whnf)
    | (refine AR.u64 (by omega) ?_; conv => whnf)
    | (refine AR.u8 (by omega) ?_; conv => whnf)
    | (refine Ob.mk (by omega) ?_; conv => whnf)
    | (refine BR.mk (fun h => ?_) (fun h => ?_) <;> (first | rw [Bool.not_eq_true'] at h | rw [Bool.not_eq_false'] at h | skip) <;> (try rw [h]) <;> (first | replace h := of_decide_eq_true h | replace h := of_decide_eq_false h | replace h := eq_of_beq h | replace h := bne_iff_ne.1 h | replace h := beq_eq_false_iff_ne.1 h | replace h := bne_eq_false_iff_eq.1 h | skip) <;> conv => whnf)
  all_goals first | rfl | omega

theorem c_tchT (z : Sli SerV) (k : Nat) (s : SerV) (hx : z.l[k]? = some s) (now : UInt64) (hs : smallT (Tab z)) (ht : tabR (Tab z) = true) (hsn : s.seen.toNat ≤ now.toNat) : Ct Tryz.prog 12 [] [z.sv, .int .i64 k, .int .u64 now.toNat] [z.f encSer 12, allF z.l] (Rs (fun y : RowS => .tup [.vec 0 y.p y.n y.c, .int .i64 0]) (fun y => [(y.b, .vec encSer 12 46 y.p y.n y.c y.l)]) (fun y => [allF y.l]) (fun y => y.n = y.l.length ∧ y.l.map SerV.ser = (Tab z).set k {s.ser with seen := now})) := by
  have hk := (List.getElem?_eq_some_iff.1 hx).1
  refine Ct.post (Ct.of Tryz.func12 rfl (n := 56) rfl rfl rfl ?_)
  conv => whnf
  repeat' first
    | (show SemO _ _ (.buildSlice _ _ #[(0, .tmp 27)]) _ _ _ _ _; refine SemO.lit ?_; (conv => whnf); show BsV _ _ _ _ _; refine BsV.s [(0 : Int)] (by repeat (first | exact .nil | refine .cons (by first | rfl | exact encB_of (by omega) | exact encU_U (by omega)) ?_)) (fun xo _ => okI xo) (fun ys hys => Nx.go ?_))
    | (show BR (decide ((k : Int) < 0)) _ _; refine BR.noK (decide_eq_false (by omega)) ?_; conv => whnf)
    | (show BR (decide ((z.l.length : Int) ≤ (k : Int))) _ _; refine BR.noK (decide_eq_false (by omega)) ?_; conv => whnf)
    | (show BR (decide (now.toNat < xe.seen.toNat)) _ _; refine BR.noK (decide_eq_false (by rw [show xe = s from Option.some.inj (hxe.symm.trans hx)]; omega)) ?_; conv => whnf)
    | (have hyn : y.n = z.l.length := (by have h9 := congrArg List.length hy.2; rw [Tab, List.length_map, List.length_map] at h9; exact hy.1.trans h9); refine Ob.mk ⟨rfl, rfl, rfl, rfl, by omega⟩ ?_; conv => whnf)
    | (show SemO _ _ (.store _ _ _) _ _ _ _ _; refine SemO.storeVel ?_; (conv => whnf); refine Ob.mk ⟨rfl, rfl, rfl, rfl, rfl, Nat.le_of_ble_eq_true rfl, by omega⟩ ?_)
    | (intro x0 hx0; show StQ _ _ 11 _ _; refine StQ.mk' ({x0 with seen := now} : SerV) rfl ?_; conv => whnf)
    | (refine Ob.mk rfl ?_; conv => whnf)
    | (refine Nx.mk ?_; conv => whnf)
    | (refine BR.yes ?_; conv => whnf)
    | (refine BR.no ?_; conv => whnf)
    | (intro bk; conv => whnf)
    | (show CallK _ _ 26 _ _ _ _; refine CallK.rv (c_cchkT z hs ht) (by repeat' (first | exact trivial | exact .head _ | apply List.Mem.tail | apply And.intro)) (Nx.go ?_))
    | (show CallK _ _ 25 _ _ _ _; refine CallK.rv (c_firstT ys hys) (by repeat' (first | exact trivial | exact .head _ | apply List.Mem.tail | apply And.intro)) (Nx.go ?_))
    | (show CallK _ _ 31 _ _ _ _; refine CallK.rv (c_since xe.seen now) (by repeat' (first | exact trivial | exact .head _ | apply List.Mem.tail | apply And.intro)) (Nx.go ?_))
    | (show CallK _ _ 29 _ _ _ _; refine CallK.rs (c_own z hs ht) (by repeat' (first | exact trivial | exact .head _ | apply List.Mem.tail | apply And.intro)) (fun y hy => ⟨rfl, Nx.go ?_⟩))
    | (show Post _ _ _ _ _; exact Rs.post ⟨0, y.b, y.p, y.n, y.c, y.l.set k {x0 with seen := now}⟩ rfl ((Imp.all3 hx0 (by repeat (first | exact .head _ | apply List.Mem.tail))).trans (Imp.to 1 rfl (by repeat' (first | exact trivial | exact .head _ | apply List.Mem.tail | apply And.intro)))) ⟨by rw [List.length_set]; exact hy.1, set_ser hy.2 (tab_at hx) hx0⟩)
    | (refine Idx.nat ?_; conv => whnf)
    | (refine Idx.is _ rfl ?_; conv => whnf)
    | (show HasP _ _ _ _ _ _; refine HasP.mk' (by repeat (first | exact .head _ | apply List.Mem.tail)) (Nx.go ?_))
    | (show RdE _ _ _ _ _ _ _; refine RdE.s (by repeat (first | exact .head _ | apply List.Mem.tail)) (by omega) (fun xe hxe => Nx.go ?_))
    | (show RdB _ _ _; refine RdB.mk' (by repeat (first | exact .head _ | apply List.Mem.tail)) (Nx.go ?_))
    | (refine AR.i64 (by omega) ?_; conv => whnf)
    | (refine AR.u64 (by omega) ?_; conv => whnf)
    | (refine AR.u8 (by omega) ?_; conv => whnf)
    | (refine Ob.mk (by omega) ?_; conv => whnf)
    | (refine BR.mk (fun h => ?_) (fun h => ?_) <;> (first | rw [Bool.not_eq_true'] at h | rw [Bool.not_eq_false'] at h | skip) <;> (try rw [h]) <;> (first | replace h := of_decide_eq_true h | replace h := of_decide_eq_false h | replace h := eq_of_beq h | replace h := bne_iff_ne.1 h | replace h := beq_eq_false_iff_ne.1 h | replace h := bne_eq_false_iff_eq.1 h | skip) <;> conv => whnf)
end Go.Proofs.YtfgnkadbpjiaiaaGreatDoor

/- clock: K23 -/
namespace Go.Proofs.YtfgnkadbpjiaiaaGreatDoor
open Go.Proofs.YtfgnkadbpjiaiaaGreatDoor.W
set_option maxRecDepth 100000
set_option linter.unusedVariables false
def laterU (now life : UInt64) : UInt64 := U ((now.toNat : Int) + min (life.toNat : Int) (18446744073709551615 - now.toNat))
theorem laterU_eq (now life : UInt64) : (now.toNat : Int) + min (life.toNat : Int) (18446744073709551615 - now.toNat) = (laterU now life).toNat := by
  have h1 := now.toNat_lt
  have h2 := life.toNat_lt
  exact (U_is (by omega)).symm
theorem later_not (now life : UInt64) (s : Ser) (h : s.seen = now) : staleS (laterU now life) life s = false := by
  have h1 := laterU_eq now life
  have h2 := now.toNat_lt
  subst h
  rw [staleS, Bool.and_eq_false_iff]
  right
  exact decide_eq_false (by omega)
theorem c_StaleI (m : Int) (now life : UInt64) (hm : m = now.toNat) (x : SerV) : Ct Tryz.prog 14 [] [.agg (encSer x), .int .u64 m, .int .u64 life.toNat] [] (Rv (.bool (staleS now life x.ser))) := by
  subst hm; exact c_Stale now life x
theorem back_ser {y : List SerV} {z : Sli SerV} {k : Nat} {s x0 ze : SerV} {now : UInt64} (hy : y.map SerV.ser = (Tab z).set k {s.ser with seen := now}) (hs : z.l[k]? = some s) (hze : z.l[k]? = some ze) (h0 : y[k]? = some x0) : (y.set k {x0 with seen := ze.seen}).map SerV.ser = Tab z := by
  obtain rfl : s = ze := Option.some.inj (hs.symm.trans hze)
  have hk := (List.getElem?_eq_some_iff.1 (tab_at hs)).1
  have h1 := congrArg (·[k]?) hy
  simp only [List.getElem?_map, h0, Option.map_some, List.getElem?_set_self hk, Option.some.injEq] at h1
  rw [List.map_set, hy, List.set_set]
  have h2 : SerV.ser { x0 with seen := s.seen } = s.ser := by
    have h3 : SerV.ser { x0 with seen := s.seen } = { x0.ser with seen := s.seen } := rfl
    rw [h3, h1]; rfl
  rw [h2]
  obtain ⟨h3, h4⟩ := List.getElem?_eq_some_iff.1 (tab_at hs)
  rw [← h4]
  exact List.set_getElem_self _
theorem touch_seen {y : List SerV} {z : Sli SerV} {k : Nat} {s xe : SerV} {now : UInt64} (hy : y.map SerV.ser = (Tab z).set k {s.ser with seen := now}) (hs : z.l[k]? = some s) (h0 : y[k]? = some xe) : xe.seen = now := by
  have hk := (List.getElem?_eq_some_iff.1 (tab_at hs)).1
  have h1 := congrArg (·[k]?) hy
  simp only [List.getElem?_map, h0, Option.map_some, List.getElem?_set_self hk, Option.some.injEq] at h1
  exact congrArg Ser.seen h1
theorem touch_len {y : List SerV} {z : Sli SerV} {k : Nat} {s : Ser} (hy : y.map SerV.ser = (Tab z).set k s) : y.length = z.l.length := by
  have h := congrArg List.length hy
  rwa [List.length_set, Tab, List.length_map, List.length_map] at h

theorem c_Touches (x : Sli SerV) (at_ : Int) (now life : UInt64) : Ct Tryz.prog 4 [] [x.sv, .int .i64 at_, .int .u64 now.toNat, .int .u64 life.toNat] [x.f encSer 12, allF x.l] (Rv (.bool true)) := by
  have hn1 := now.toNat_lt
  have hn2 := life.toNat_lt
  refine Ct.of Tryz.func4 rfl (n := 91) rfl rfl rfl ?_
  conv => whnf
  repeat' first
    | (show BR (decide ((y.n : Int) ≠ z.l.length)) _ _; refine BR.noK (decide_eq_false (by have hyl := touch_len hy.2; have hyn := hy.1; have hk := (List.getElem?_eq_some_iff.1 hx).1; omega)) ?_; conv => whnf)
    | (show BR (decide ((k : Int) < 0)) _ _; refine BR.noK (decide_eq_false (by omega)) ?_; conv => whnf)
    | (show BR (decide ((y.n : Int) ≤ (k : Int))) _ _; refine BR.noK (decide_eq_false (by have hyl := touch_len hy.2; have hyn := hy.1; have hk := (List.getElem?_eq_some_iff.1 hx).1; omega)) ?_; conv => whnf)
    | (show RdE _ z.p _ _ _ _ _; have hyl := touch_len hy.2; have hyn := hy.1; have hk := (List.getElem?_eq_some_iff.1 hx).1; refine RdE.s (x := z) (by repeat (first | exact .head _ | apply List.Mem.tail)) (by omega) (fun ze hze => Nx.go ?_))
    | (have hyl := touch_len hy.2; have hyn := hy.1; have hk := (List.getElem?_eq_some_iff.1 hx).1; refine Ob.mk ⟨rfl, rfl, rfl, rfl, by omega⟩ ?_; conv => whnf)
    | (have hyl := touch_len hy.2; have hyn := hy.1; have hk := (List.getElem?_eq_some_iff.1 hx).1; refine Ob.mk ⟨rfl, rfl, by omega⟩ ?_; conv => whnf)
    | (have hyl := touch_len hy.2; have hyn := hy.1; have hk := (List.getElem?_eq_some_iff.1 hx).1; show SemO _ _ (.store _ _ _) _ _ _ _ _; refine SemO.storeVel ?_; (conv => whnf); refine Ob.mk ⟨rfl, rfl, rfl, rfl, rfl, Nat.le_of_ble_eq_true rfl, by omega⟩ ?_)
    | (intro x0 hx0; show StQ _ _ 11 _ _; refine StQ.mk' ({x0 with seen := ze.seen} : SerV) rfl ?_; conv => whnf)
    | (intro xe hxe; conv => whnf)
    | (refine Ob.mk rfl ?_; conv => whnf)
    | (refine Nx.mk ?_; conv => whnf)
    | (refine BR.yes ?_; conv => whnf)
    | (refine BR.no ?_; conv => whnf)
    | (show CallK _ _ _ _ _ _ _; refine CallK.rv c_shown14 (by repeat' (first | exact trivial | exact .head _ | apply List.Mem.tail | apply And.intro)) (Nx.go ?_))
    | (show CallK _ _ 10 _ _ _ _; refine CallK.rf (c_few12 x) (by repeat' (first | exact trivial | exact .head _ | apply List.Mem.tail | apply And.intro)) (fun z hz => Nx.go ?_))
    | (show CallK _ _ 12 _ _ _ _; refine CallK.rv (c_tch1 z at_ now (by rw [hz]; exact few12_small _) ht) (by repeat' (first | exact trivial | exact .head _ | apply List.Mem.tail | apply And.intro)) (Nx.go ?_))
    | (show CallK _ _ 12 _ _ _ _; refine CallK.rv (c_tch2 z at_ now (by rw [hz]; exact few12_small _) ht hat) (by repeat' (first | exact trivial | exact .head _ | apply List.Mem.tail | apply And.intro)) (Nx.go ?_))
    | (show CallK _ _ 12 _ _ _ _; refine CallK.rv (c_tch3 z k s hx now (by rw [hz]; exact few12_small _) ht hsn) (by repeat' (first | exact trivial | exact .head _ | apply List.Mem.tail | apply And.intro)) (Nx.go ?_))
    | (show CallK _ _ 12 _ _ _ _; refine CallK.rs (c_tchT z k s hx now (by rw [hz]; exact few12_small _) ht hsn) (by repeat' (first | exact trivial | exact .head _ | apply List.Mem.tail | apply And.intro)) (fun y hy => ⟨rfl, Nx.go ?_⟩))
    | (show CallK _ _ _ _ _ _ _; refine CallK.rvP ((Imp.pubS 0 rfl (by rw [List.length_set]; exact hy.1.symm)).trans (Imp.all3 hx0 (by repeat (first | exact .head _ | apply List.Mem.tail)))) (c_sameT ⟨y.l.set k {x0 with seen := ze.seen}, y.p, y.c⟩ z) (by show ([SV.den (.raw (.slice y.p (y.l.set k {x0 with seen := ze.seen}).length y.c)), z.sv.den] : List Value) = [SV.den (.vec 0 y.p y.n y.c), z.sv.den]; rw [List.length_set, ← hy.1]; rfl) (by repeat' (first | exact trivial | exact .head _ | apply List.Mem.tail | apply And.intro)) (Nx.go ?_))
    | (show CallK _ _ 14 _ _ _ _; refine CallK.rv (c_StaleI _ (laterU now life) life (laterU_eq now life) ⟨nilL, sk0, now⟩) (by repeat' (first | exact trivial | exact .head _ | apply List.Mem.tail | apply And.intro)) (Nx.go ?_))
    | (show CallK _ _ 12 [z.sv, _, _] _ _ _; rcases touch_cases z at_ now with ht | ⟨ht, hat⟩ | ⟨ht, k, s, rfl, hx, hsn⟩ | ⟨ht, k, s, rfl, hx, hsn⟩)
    | (refine Idx.nat ?_; conv => whnf)
    | (refine Idx.is _ rfl ?_; conv => whnf)
    | (show HasP _ _ _ _ _ _; refine HasP.mk' (by repeat (first | exact .head _ | apply List.Mem.tail)) (Nx.go ?_))
    | (show RdE _ _ _ _ _ _ _; refine RdE.s (by repeat (first | exact .head _ | apply List.Mem.tail)) (by omega) (fun xe hxe => Nx.go ?_))
    | (show RdB _ _ _; refine RdB.mk' (by repeat (first | exact .head _ | apply List.Mem.tail)) (Nx.go ?_))
    | (refine AR.i64 (by omega) ?_; conv => whnf)
    | (refine AR.u64 (by omega) ?_; conv => whnf)
    | (refine AR.u8 (by omega) ?_; conv => whnf)
    | (refine Ob.mk (by omega) ?_; conv => whnf)
    | (refine BR.mk (fun h => ?_) (fun h => ?_) <;> (first | rw [Bool.not_eq_true'] at h | rw [Bool.not_eq_false'] at h | skip) <;> (try rw [h]) <;> (first | replace h := of_decide_eq_true h | replace h := of_decide_eq_false h | replace h := eq_of_beq h | replace h := bne_iff_ne.1 h | replace h := beq_eq_false_iff_ne.1 h | replace h := bne_eq_false_iff_eq.1 h | skip) <;> conv => whnf)
  · rfl
  · rfl
  · rfl
  · exact absurd (by have h8 := touch_len hy.2; have h7 := hy.1; omega) h
  · exact absurd (by rw [touch_seen hy.2 hx hxe]) h
  · exact congrArg SV.bool (decide_eq_true (by obtain rfl : s = ze := Option.some.inj (hx.symm.trans hze); omega))
  · exact absurd (h.symm.trans (later_not now life _ rfl)) (by decide)
  · exact absurd (back_ser hy.2 hx hze hx0) h
end Go.Proofs.YtfgnkadbpjiaiaaGreatDoor

/- clock: K24 -/
namespace Go.Proofs.YtfgnkadbpjiaiaaGreatDoor
open Go.Proofs.YtfgnkadbpjiaiaaGreatDoor.W
set_option maxRecDepth 100000
set_option linter.unusedVariables false
open Go.ChangeShapes Go.WideShapes Go.RowKit

set_option maxRecDepth 100000 in
theorem clockTouches_lifted (os : Os) (started : os.Started) (H : Type) (enc : TypeId × Value → H) :
    ReturnsInHanded {} Tryz.checked os 4 .any (fun w args => (Rows.clockTouchesSpec.pre enc Tryz.prog Tryz.f4 [] false w args ∧ laidMetH Tryz.prog laidL w) ∧ sizedMet enc Tryz.prog Tryz.f4 (OpenSpec.ofChange Rows.clockTouchesSpec) false w args)
      (Rows.clockTouchesSpec.post enc Tryz.prog Tryz.f4 false true false false) := by
  refine returnsInHanded_of_change_and (C := Tryz.checked) (X := fun w _ => laidMetH Tryz.prog laidL w) (fun _ _ _ hh h => h.of_heap hh) Tryz.own started (by kernel_rfl) Tryz.func4
    (ChangeSpec.witness_at (enc := enc) (C := Tryz.checked) (os := os) (X := fun w _ => laidMetH Tryz.prog laidL w) false (laidWorld os) #[.slice none 0 0, .int .i64 0, .int .u64 0, .int .u64 0] 8 rfl (by kernel_rfl) (by kernel_rfl) (by kernel_rfl) (by kernel_rfl) (by kernel_rfl) (laidWorld_met os _)) ?_
  intro W base args ds gs before hval0 hW _ _ _ _
  have hval : ∀ (j : Nat) t v, Tryz.f4.params[j]? = some t → args[j]? = some v → Value.okWide Tryz.prog W .any base t v := hval0
  have hW' := hW
  obtain ⟨p, q, hA0, hV, rfl, hfz, hnd⟩ := hW
  have hA : DataW.TrodAll enc Tryz.prog W 0 (fun _ => true) true Tryz.f4.params.toList args.toList ds p := hA0
  rw [Tryz.params4] at hA hval
  obtain ⟨rfl, rfl⟩ := trodVars_none hV
  obtain ⟨v0, vs0, d0, ds0, p0, q0, hargs, rfl, rfl, h0, r0⟩ := trodAll_cons hA
  obtain ⟨v1, vs1, d1, ds1, p1, q1, rfl, rfl, rfl, h1, r1⟩ := trodAll_cons r0
  obtain ⟨v2, vs2, d2, ds2, p2, q2, rfl, rfl, rfl, h2, r2⟩ := trodAll_cons r1
  obtain ⟨v3, vs3, d3, ds3, p3, q3, rfl, rfl, rfl, h3, r3⟩ := trodAll_cons r2
  obtain ⟨rfl, rfl, rfl⟩ := trodAll_nil r3
  obtain rfl : args = #[v0, v1, v2, v3] := by cases args; simp_all
  clear hA0 hval0
  obtain ⟨a0, l0, c0, hv0⟩ := okWide_slice Tryz.underlying22 (hval 0 22 v0 rfl rfl)
  obtain ⟨fuel0, hf0⟩ := h0
  obtain ⟨x0, hx0, hh0⟩ := open_sers hf0
  obtain rfl : v0 = x0.sv.den := by rw [hv0] at hx0 ⊢; simpa [Value.cells] using hx0
  obtain ⟨n1, rfl, rfl, rfl, w1⟩ := open_int Tryz.underlying3 (hval 1 3 v1 rfl rfl) h1
  obtain ⟨n2, rfl, rfl, rfl, w2⟩ := open_int Tryz.underlying23 (hval 2 23 v2 rfl rfl) h2
  obtain ⟨u2, rfl⟩ : ∃ u : UInt64, n2 = (u.toNat : Int) := ⟨U n2, (U_is (wf_u64 w2)).symm⟩
  obtain ⟨n3, rfl, rfl, rfl, w3⟩ := open_int Tryz.underlying23 (hval 3 23 v3 rfl rfl) h3
  obtain ⟨u3, rfl⟩ : ∃ u : UInt64, n3 = (u.toNat : Int) := ⟨U n3, (U_is (wf_u64 w3)).symm⟩
  refine (Ct.run (c_Touches x0 n1 u2 u3) hh0).mono fun e W' ⟨r, bs, Ψ, he, hk, hr⟩ => ?_
  have hr' : r = .bool true := hr
  subst hr'
  subst he
  exact ⟨_, rfl, law_post (tb := 4) Tryz.kids Tryz.full hW' rfl (by rw [Tryz.params4]; decide) (by kernel_rfl) Tryz.underlying4 rfl hk⟩
theorem clockTouches_holds : Rows.ClockTouchesSaid :=
  OpenClaim.holds_of_wide 4 Tryz.f4 rfl rfl rfl rfl rfl rfl rfl ⟨rfl, rfl, rfl, rfl, rfl⟩ rfl rfl rfl rfl rfl (by kernel_rfl) Tryz.func4 (by kernel_rfl)
    (of_decide_eq_true (by kernel_rfl)) (by unfold Func.isWrapper; first | (rw [if_pos (by decide +kernel)]; kernel_rfl) | (rw [if_neg (by decide +kernel)]; exact ⟨rfl, rfl⟩))
    (fun os started H enc _ => clockTouches_lifted os started H enc)

open Go
/-- the card -/
theorem clockTouches_card : Rows.ClockTouchesCardSaid :=
  Claim7.holds_tied_plain_at .later [] [.handle] true (true, "19007259db43c8c4ceab7027926c06824a37d9492bc23d59c0da673ba9433e41") true
    clockTouches_holds (fun _ h => by cases h) (by kernel_rfl) (fun _ h => by cases h) clockTouches_row_tie rfl ⟨rfl, rfl⟩ (by kernel_rfl) rfl
    (fun f fn hf hfn => by
      obtain rfl : f = 4 := Option.some.inj ((show Tryz.prog.funcNamed "aviary/aviarylaw14.ClockTouches" = some 4 by kernel_rfl).symm.trans hf) |>.symm
      obtain rfl : fn = Tryz.f4 := (Option.some.inj (Tryz.func4.symm.trans hfn)).symm
      exact ⟨by kernel_rfl, fun j t ht => by
        rw [Tryz.params4] at ht
        match j, ht with
        | 0, ht => obtain rfl : t = 22 := (Option.some.inj ht).symm; exact (show Tryz.prog.wantsStandIn 22 = false by kernel_rfl)
        | 1, ht => obtain rfl : t = 3 := (Option.some.inj ht).symm; exact (show Tryz.prog.wantsStandIn 3 = false by kernel_rfl)
        | 2, ht => obtain rfl : t = 23 := (Option.some.inj ht).symm; exact (show Tryz.prog.wantsStandIn 23 = false by kernel_rfl)
        | 3, ht => obtain rfl : t = 23 := (Option.some.inj ht).symm; exact (show Tryz.prog.wantsStandIn 23 = false by kernel_rfl)
        | j + 4, ht => simp at ht⟩)
    (by kernel_rfl)
end Go.Proofs.YtfgnkadbpjiaiaaGreatDoor
