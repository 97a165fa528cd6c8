/- The given statement ClockNextCardSaid is proved: the law returns true at every input, and every argument reads behind the call as it read before; no condition beyond the statement. -/
import Derived.Test.YtfgnkadbpjiaiaaGreatDoorTC
import Derived.Test.YtfgnkadbpjiaiaaGreatDoorCards
set_option linter.unusedVariables false
/- clock: K17 -/
namespace Go.Proofs.YtfgnkadbpjiaiaaGreatDoor
open Go.Proofs.YtfgnkadbpjiaiaaGreatDoor.W
set_option maxRecDepth 100000
set_option linter.unusedVariables false
theorem Lab.eq_iff {a b : Lab} : a = b ↔ a.name = b.name ∧ a.value = b.value := by cases a; cases b; simp
theorem two_all {x y : List SerV} {i j : Nat} {a b : SerV} (ha : x[i]? = some a) (hb : y[j]? = some b) (A : Nat → Prop) (w : World) (hh : Hold [allF x, allF y] A w) : Hold (a.fs ++ b.fs) A w := by
  intro F hF
  rcases List.mem_append.1 hF with hF | hF
  · exact hh (allF x) (.head _) a (List.mem_of_getElem? ha) F hF
  · exact hh (allF y) (.tail _ (.head _)) b (List.mem_of_getElem? hb) F hF

theorem c_eqL (a b : Sli Lab) : Ct Tryz.prog 34 [] [a.sv, b.sv] [a.f encLab 2, b.f encLab 2] (Rv (.bool (decide (a.l = b.l)))) := by
  refine Ct.len (enc := encLab) (L := a.l) (List.Mem.head _) fun ha => ?_
  refine Ct.of Tryz.func34 rfl (n := 26) rfl rfl rfl ?_
  conv => whnf
  repeat' first
    | (refine Ob.mk rfl ?_; conv => whnf)
    | (refine Nx.mk ?_; conv => whnf)
    | (refine BR.yes ?_; conv => whnf)
    | (refine BR.no ?_; conv => whnf)
    | (show SemC _ _ _ (.loop (.seq (.region 4 _ _) _)) _ _ _ _ _; refine SemC.loopC (c := (.seq (.region 4 _ _) _)) (fun i : Nat => [(13, .int .i64 i)]) (fun i => i ≤ a.l.length ∧ a.l.length = b.l.length ∧ a.l.take i = b.l.take i) (fun i => a.l.length - i) 0 ?_; (conv => whnf); refine LoopQ.mk ?_ ⟨(by repeat (first | exact trivial | refine ⟨rfl, ?_⟩ | refine ⟨congrArg (Value.int _) (by omega), ?_⟩)), Imp.refl⟩ (fun i hi => ?_))
    | (show Exists _; refine Exists.intro (i + 1) ⟨?_, ?_, rfl, ⟨(by repeat (first | exact trivial | refine ⟨rfl, ?_⟩ | refine ⟨congrArg (Value.int _) (by omega), ?_⟩)), Imp.refl⟩⟩)
    | (refine BinS.agg 5 (by kernel_rfl) ?_; conv => whnf)
    | (refine Ob.mk ⟨by kernel_rfl, by kernel_rfl⟩ ?_; conv => whnf)
    | (refine SemC.draw 6 [] [.t 0, .t 1, .t 2, .t 3, .t 4, .t 5, .t 6, .t 7, .t 8] (by kernel_rfl) (by kernel_rfl) ?_; conv => whnf)
    | (refine Idx.nat ?_; conv => whnf)
    | (refine Idx.is _ rfl ?_; conv => whnf)
    | (show HasP _ _ _ _ _ _; refine HasP.mk' (by repeat (first | exact .head _ | apply List.Mem.tail)) (Nx.go ?_))
    | (show RdE _ _ _ _ _ _ _; refine RdE.s (by repeat (first | exact .head _ | apply List.Mem.tail)) (by omega) (fun xe hxe => Nx.go ?_))
    | (show RdB _ _ _; refine RdB.mk' (by repeat (first | exact .head _ | apply List.Mem.tail)) (Nx.go ?_))
    | (refine AR.i64 (by omega) ?_; conv => whnf)
    | (refine AR.u64 (by omega) ?_; conv => whnf)
    | (refine AR.u8 (by omega) ?_; conv => whnf)
    | (refine Ob.mk (by omega) ?_; conv => whnf)
    | (refine BR.mk (fun h => ?_) (fun h => ?_) <;> (first | rw [Bool.not_eq_true'] at h | rw [Bool.not_eq_false'] at h | skip) <;> (try rw [h]) <;> (first | replace h := of_decide_eq_true h | replace h := of_decide_eq_false h | replace h := eq_of_beq h | replace h := bne_iff_ne.1 h | replace h := beq_eq_false_iff_ne.1 h | replace h := bne_eq_false_iff_eq.1 h | skip) <;> conv => whnf)
  all_goals try (simp only [resS, SV.bool.injEq, eq_comm (a := false), eq_comm (a := true), decide_eq_false_iff_not, decide_eq_true_eq] at *)
  all_goals grind [List.take_add_one, Lab.eq_iff]

theorem c_same1 (x y : SerV) : Ct Tryz.prog 33 [] [.agg (encSer x), .agg (encSer y)] (x.fs ++ y.fs) (Rv (.bool (decide (x.ser = y.ser)))) := by
  refine Ct.of Tryz.func33 rfl (n := 24) rfl rfl rfl ?_
  conv => whnf
  repeat' first
    | (refine Ob.mk rfl ?_; conv => whnf)
    | (refine Nx.mk ?_; conv => whnf)
    | (refine BR.yes ?_; conv => whnf)
    | (refine BR.no ?_; conv => whnf)
    | (intro bk; conv => whnf)
    | (show CallK _ _ 34 _ _ _ _; refine CallK.rv (c_eqL x.L y.L) (by repeat' (first | exact trivial | exact .head _ | apply List.Mem.tail | apply And.intro)) (Nx.go ?_))
    | (show CallK _ _ 35 _ _ _ _; refine CallK.rv (c_same x.S y.S) (by repeat' (first | exact trivial | exact .head _ | apply List.Mem.tail | apply And.intro)) (Nx.go ?_))
    | (show RdB _ _ _; refine RdB.mk' (by repeat (first | exact .head _ | apply List.Mem.tail)) (Nx.go ?_))
    | (refine AR.i64 (by omega) ?_; conv => whnf)
    | (refine AR.u64 (by omega) ?_; conv => whnf)
    | (refine AR.u8 (by omega) ?_; conv => whnf)
    | (refine Ob.mk (by omega) ?_; conv => whnf)
    | (refine BR.mk (fun h => ?_) (fun h => ?_) <;> (first | rw [Bool.not_eq_true'] at h | rw [Bool.not_eq_false'] at h | skip) <;> (try rw [h]) <;> (first | replace h := of_decide_eq_true h | replace h := of_decide_eq_false h | replace h := eq_of_beq h | replace h := bne_iff_ne.1 h | replace h := beq_eq_false_iff_ne.1 h | replace h := bne_eq_false_iff_eq.1 h | skip) <;> conv => whnf)
  all_goals (simp only [resS, SV.bool.injEq, SerV.ser, Ser.mk.injEq]; grind [UInt64.toNat_inj])

theorem c_eqFS (a b : Sli SerV) : Ct Tryz.prog 32 [] [a.sv, b.sv, .fn 33 [] []] [a.f encSer 12, b.f encSer 12, allF a.l, allF b.l] (Rv (.bool (decide (Tab a = Tab b)))) := by
  refine Ct.len (enc := encSer) (L := a.l) (List.Mem.head _) fun ha => ?_
  refine Ct.of Tryz.func32 rfl (n := 32) rfl rfl rfl ?_
  conv => whnf
  repeat' first
    | (show RdE _ b.p _ _ _ _ _; refine RdE.s (x := b) (by repeat (first | exact .head _ | apply List.Mem.tail)) (by omega) (fun ye hye => Nx.go ?_))
    | (refine Ob.mk rfl ?_; conv => whnf)
    | (refine Nx.mk ?_; conv => whnf)
    | (refine BR.yes ?_; conv => whnf)
    | (refine BR.no ?_; conv => whnf)
    | (intro bk; conv => whnf)
    | (show CallK _ _ _ _ _ _ _; refine CallK.rv (ct_facts (c_same1 xe ye) (two_all hxe hye)) (by repeat' (first | exact trivial | exact .head _ | apply List.Mem.tail | apply And.intro)) (Nx.go ?_))
    | (show SemC _ _ _ (.loop (.seq (.region 4 _ _) _)) _ _ _ _ _; refine SemC.loopB (c := (.seq (.region 4 _ _) _)) (fun i : Nat => [(17, .int .i64 i)]) (fun i => []) (fun i => i ≤ a.l.length ∧ a.l.length = b.l.length ∧ (Tab a).take i = (Tab b).take i) (fun i => a.l.length - i) 0 ?_; (conv => whnf); refine LoopQ.mk ?_ ⟨(by repeat (first | exact trivial | refine ⟨rfl, ?_⟩ | refine ⟨congrArg (Value.int _) (by omega), ?_⟩)), Imp.refl⟩ (fun i hi => ?_))
    | (show Exists _; refine Exists.intro (i + 1) ⟨?_, ?_, rfl, ⟨(by repeat (first | exact trivial | refine ⟨rfl, ?_⟩ | refine ⟨congrArg (Value.int _) (by omega), ?_⟩)), Imp.to 0 rfl (by repeat' (first | exact trivial | exact .head _ | apply List.Mem.tail | apply And.intro))⟩⟩)
    | (refine Idx.nat ?_; conv => whnf)
    | (refine Idx.is _ rfl ?_; conv => whnf)
    | (show HasP _ _ _ _ _ _; refine HasP.mk' (by repeat (first | exact .head _ | apply List.Mem.tail)) (Nx.go ?_))
    | (show RdE _ _ _ _ _ _ _; refine RdE.s (by repeat (first | exact .head _ | apply List.Mem.tail)) (by omega) (fun xe hxe => Nx.go ?_))
    | (show RdB _ _ _; refine RdB.mk' (by repeat (first | exact .head _ | apply List.Mem.tail)) (Nx.go ?_))
    | (refine AR.i64 (by omega) ?_; conv => whnf)
    | (refine AR.u64 (by omega) ?_; conv => whnf)
    | (refine AR.u8 (by omega) ?_; conv => whnf)
    | (refine Ob.mk (by omega) ?_; conv => whnf)
    | (refine BR.mk (fun h => ?_) (fun h => ?_) <;> (first | rw [Bool.not_eq_true'] at h | rw [Bool.not_eq_false'] at h | skip) <;> (try rw [h]) <;> (first | replace h := of_decide_eq_true h | replace h := of_decide_eq_false h | replace h := eq_of_beq h | replace h := bne_iff_ne.1 h | replace h := beq_eq_false_iff_ne.1 h | replace h := bne_eq_false_iff_eq.1 h | skip) <;> conv => whnf)
  · exact congrArg SV.bool (decide_eq_false (fun e => h (by have h9 := congrArg List.length e; simp only [Tab, List.length_map] at h9; omega))).symm
  · exact ⟨Nat.zero_le _, by omega, rfl⟩
  · exact congrArg SV.bool (decide_eq_false (fun e => h (by have h1 := tab_at hxe; rw [e, tab_at hye] at h1; exact (Option.some.inj h1).symm))).symm
  · exact ⟨by omega, hi.2.1, by rw [take_snoc (tab_at hxe), take_snoc (tab_at hye), hi.2.2, h]⟩
  · omega
  · exact congrArg SV.bool (decide_eq_true (by have h1 := hi.2.2; rwa [take_all (by rw [Tab, List.length_map]; omega), take_all (by rw [Tab, List.length_map]; omega)] at h1)).symm

theorem c_sameT (a b : Sli SerV) : Ct Tryz.prog 13 [] [a.sv, b.sv] [a.f encSer 12, b.f encSer 12, allF a.l, allF b.l] (Rv (.bool (decide (Tab a = Tab b)))) := by
  refine Ct.of Tryz.func13 rfl (n := 8) rfl rfl rfl ?_
  conv => whnf
  repeat' first
    | (refine Ob.mk rfl ?_; conv => whnf)
    | (refine Nx.mk ?_; conv => whnf)
    | (show CallK _ _ 32 _ _ _ _; refine CallK.rv (c_eqFS a b) (by repeat' (first | exact trivial | exact .head _ | apply List.Mem.tail | apply And.intro)) (Nx.go ?_))
    | (refine Ob.mk (by omega) ?_; conv => whnf)
  rfl
end Go.Proofs.YtfgnkadbpjiaiaaGreatDoor

/- clock: K18 -/
namespace Go.Proofs.YtfgnkadbpjiaiaaGreatDoor
open Go.Proofs.YtfgnkadbpjiaiaaGreatDoor.W
set_option maxRecDepth 100000
set_option linter.unusedVariables false
theorem bl_trans : ∀ {a b c : List UInt8}, Op.bytesLess a b = true → Op.bytesLess b c = true → Op.bytesLess a c = true
  | _, [], _, h, _ => by simp [Op.bytesLess] at h
  | _, _ :: _, [], _, h => by simp [Op.bytesLess] at h
  | [], _ :: _, _ :: _, _, _ => rfl
  | x :: a, y :: b, z :: c, h1, h2 => by
    simp only [Op.bytesLess, Bool.or_eq_true, Bool.and_eq_true, decide_eq_true_eq, beq_iff_eq] at h1 h2 ⊢
    rcases h1 with h1 | ⟨rfl, h1⟩
    · rcases h2 with h2 | ⟨rfl, h2⟩
      · exact .inl (UInt8.lt_trans h1 h2)
      · exact .inl h1
    · rcases h2 with h2 | ⟨rfl, h2⟩
      · exact .inl h2
      · exact .inr ⟨rfl, bl_trans h1 h2⟩
/-- a way to compare: what comes to nothing is the same; less is carried on -/
structure CmpOk {α : Type} (c : α → α → Int) : Prop where
  eq : ∀ {a b}, c a b = 0 → a = b
  tr : ∀ {a b d}, c a b < 0 → c b d < 0 → c a d < 0
theorem cmpS_neg {a b : List UInt8} : cmpS a b < 0 ↔ Op.bytesLess a b = true := by
  unfold cmpS
  split
  · exact ⟨fun _ => by assumption, fun _ => by decide⟩
  · rename_i h
    exact ⟨fun h2 => by split at h2 <;> exact absurd h2 (by decide), fun h2 => absurd h2 h⟩
theorem cmpS_ok : CmpOk cmpS where
  eq := by
    intro a b h
    unfold cmpS at h
    split at h
    · exact absurd h (by decide)
    · split at h
      · rename_i h1 h2
        simp only [Bool.or_eq_true, decide_eq_true_eq] at h2
        exact h2.resolve_left h1
      · exact absurd h (by decide)
  tr := fun h1 h2 => cmpS_neg.2 (bl_trans (cmpS_neg.1 h1) (cmpS_neg.1 h2))
theorem cmpL_ok : CmpOk cmpL where
  eq := by
    intro a b h
    unfold cmpL orI at h
    split at h
    · rename_i h1
      exact Lab.eq_iff.2 ⟨cmpS_ok.eq h1, cmpS_ok.eq h⟩
    · rename_i h1
      exact absurd h h1
  tr := by
    intro a b d h1 h2
    unfold cmpL orI at h1 h2 ⊢
    split at h1
    · rename_i e1
      rw [← cmpS_ok.eq e1] at h2
      split at h2
      · rename_i e2
        rw [if_pos e2]; exact cmpS_ok.tr h1 h2
      · rename_i e2
        rw [if_neg e2]; exact h2
    · rename_i e1
      split at h2
      · rename_i e2
        rw [← cmpS_ok.eq e2, if_neg e1]; exact h1
      · have h3 := cmpS_ok.tr h1 h2
        rw [if_neg (by omega)]; exact h3
theorem cmpLs_tr : ∀ {a b d : List Lab}, cmpLs a b < 0 → cmpLs b d < 0 → cmpLs a d < 0
  | [], [], _, h, _ => absurd h (by decide)
  | _ :: _, [], _, h, _ => absurd (show (1 : Int) < 0 from h) (by decide)
  | _, _ :: _, [], _, h => absurd (show (1 : Int) < 0 from h) (by decide)
  | [], _ :: _, _ :: _, _, _ => show (-1 : Int) < 0 by decide
  | x :: a, y :: b, z :: c, h1, h2 => by
    rw [cmpLs] at h1 h2 ⊢
    split at h1
    · rename_i e1
      rw [← cmpL_ok.eq e1] at h2
      split at h2
      · rename_i e2
        rw [if_pos e2]; exact cmpLs_tr h1 h2
      · rename_i e2
        rw [if_neg e2]; exact h2
    · rename_i e1
      split at h2
      · rename_i e2
        rw [← cmpL_ok.eq e2, if_neg e1]; exact h1
      · have h3 := cmpL_ok.tr h1 h2
        rw [if_neg (by omega)]; exact h3
theorem lessL_tr {a b d : List Lab} (h1 : lessL a b = true) (h2 : lessL b d = true) : lessL a d = true := decide_eq_true (cmpLs_tr (of_decide_eq_true h1) (of_decide_eq_true h2))
theorem risesT_pw : ∀ t : List Ser, risesT t = true ↔ List.Pairwise (fun a b : Ser => lessL a.l b.l = true) t
  | [] => by simp [risesT]
  | [a] => by simp [risesT]
  | a :: b :: l => by
    rw [risesT, Bool.and_eq_true, risesT_pw (b :: l), List.pairwise_cons (a := a)]
    refine ⟨fun ⟨h1, h2⟩ => ⟨fun c hc => ?_, h2⟩, fun ⟨h1, h2⟩ => ⟨h1 b (.head _), h2⟩⟩
    rcases List.mem_cons.1 hc with rfl | hc
    · exact h1
    · exact lessL_tr h1 ((List.pairwise_cons.1 h2).1 c hc)
/-- a part of a table, in its order, is a table -/
theorem tabR_sub {t u : List Ser} (h : u.Sublist t) (ht : tabR t = true) : tabR u = true := by
  simp only [tabR, Bool.and_eq_true, decide_eq_true_eq, List.all_eq_true] at ht ⊢
  exact ⟨⟨Nat.le_trans h.length_le ht.1.1, fun x hx => ht.1.2 x (h.subset hx)⟩, (risesT_pw u).2 (((risesT_pw t).1 ht.2).sublist h)⟩
theorem keepS_sub (now life : UInt64) (t : List Ser) : (keepS now life t).Sublist t := List.filter_sublist
theorem tabR_keep {now life : UInt64} {t u : List Ser} (h : u = keepS now life t) (ht : tabR t = true) : tabR u = true := by rw [h]; exact tabR_sub (keepS_sub ..) ht
theorem small_keep {now life : UInt64} {t u : List Ser} (h : u = keepS now life t) (hs : smallT t) : smallT u := fun x hx => hs x (by rw [h] at hx; exact (keepS_sub ..).subset hx)
theorem keep_not {now life : UInt64} {y : Sli SerV} {t : List Ser} (h : Tab y = keepS now life t) {i : Nat} {x : SerV} (hx : y.l[i]? = some x) : staleS now life x.ser = false := by
  have h1 := List.mem_of_getElem? (tab_at hx)
  rw [h, keepS, List.mem_filter] at h1
  simpa using h1.2
theorem keep_keep {a b life : UInt64} {t : List Ser} (h : a.toNat ≤ b.toNat) : keepS b life (keepS a life t) = keepS b life t := by
  rw [keepS, keepS, List.filter_filter, keepS]
  refine List.filter_congr fun s _ => ?_
  rcases h1 : staleS b life s
  · rcases h2 : staleS a life s
    · rfl
    · rw [stale_mono h (Nat.le_refl _) h2] at h1; cases h1
  · rfl
theorem once_eq {now life : UInt64} {t u v : List Ser} (h1 : u = keepS now life t) (h2 : v = keepS now life u) : u = v := by rw [h2, h1, keep_keep (Nat.le_refl _)]
end Go.Proofs.YtfgnkadbpjiaiaaGreatDoor

/- clock: K25 -/
namespace Go.Proofs.YtfgnkadbpjiaiaaGreatDoor
open Go.Proofs.YtfgnkadbpjiaiaaGreatDoor.W
set_option maxRecDepth 100000
set_option linter.unusedVariables false
theorem CallK.pre {P : Program} {lb lb' : LBs} {Φ Φ' : Facts} {f : FuncId} {args : List SV} {q : SV → LBs → Facts → Prop} (hi : Imp P lb Φ lb' Φ') (h : CallK P none f args lb' Φ' q) (hf : isFn P f := by exact fun _ _ => rfl) : CallK P none f args lb Φ q := by
  refine ⟨.inl ⟨hf, ⟨fun ω w hr => ?_⟩⟩⟩
  rcases h.h with ⟨_, h⟩ | ⟨v, _, hx⟩
  · exact Calls.mono (h.h ω w (hi ω w hr)) fun e w' ⟨v, lb', Φ', he, hq, hr, _⟩ => ⟨v, lb', Φ', he, hq, hr, trivial⟩
  · obtain ⟨w', h1, _⟩ := hx w
    rw [hf] at h1
    cases h1
/-- when a series is stale: its first time -/
def timeOf (life : UInt64) (s : Ser) : Option UInt64 := if (life.toNat : Int) ≥ 18446744073709551615 - s.seen.toNat then none else some (U (s.seen.toNat + life.toNat + 1))
def timesS (life : UInt64) (t : List Ser) : List UInt64 := t.filterMap (timeOf life)
abbrev timesX (life : UInt64) (t : List Ser) : List (List SV) := (timesS life t).map fun u => [SV.int .u64 u.toNat]
theorem timesS_snoc {life : UInt64} {t : List Ser} {i : Nat} {s : Ser} (h : t[i]? = some s) : timesS life (t.take (i + 1)) = timesS life (t.take i) ++ (timeOf life s).toList := by
  rw [take_snoc h, timesS, timesS, List.filterMap_append]
  congr 1
theorem timesS_get {life u : UInt64} {t : List Ser} {i : Nat} {s : Ser} (h : t[i]? = some s) (hu : timeOf life s = some u) : (timesS life t)[(timesS life (t.take i)).length]? = some u := by
  have e : timesS life t = timesS life (t.take (i + 1)) ++ timesS life (t.drop (i + 1)) := by rw [timesS, timesS, timesS, ← List.filterMap_append, List.take_append_drop]
  rw [e, timesS_snoc h, hu, List.append_assoc, List.getElem?_append_right (Nat.le_refl _), Nat.sub_self]
  rfl
theorem timesX_at {life : UInt64} {t : List Ser} {i n : Nat} {s : Ser} (h : t[i]? = some s) (hn : n = (timesS life (t.take i)).length) (hl : ¬ (life.toNat : Int) ≥ 18446744073709551615 - s.seen.toNat) : ((timesX life t).map dens)[n]? = some (dens [.int .u64 ((s.seen.toNat : Int) + life.toNat + 1)]) := by
  have h1 := timesS_get (life := life) h (by rw [timeOf, if_neg hl])
  subst hn
  rw [List.getElem?_map, List.getElem?_map, h1]
  have h2 : ((U ((s.seen.toNat : Int) + life.toNat + 1)).toNat : Int) = (s.seen.toNat : Int) + life.toNat + 1 := U_is (by omega)
  show some (dens [SV.int .u64 _]) = _
  rw [h2]
theorem timesX_inv {life : UInt64} {t : List Ser} {n : Nat} {v : List SV} (h : (timesX life t)[n]? = some v) : ∃ u : UInt64, (timesS life t)[n]? = some u ∧ v = [.int .u64 u.toNat] := by
  rw [List.getElem?_map] at h
  obtain ⟨u, h1, rfl⟩ := Option.map_eq_some_iff.1 h
  exact ⟨u, h1, rfl⟩
theorem timesS_none {life : UInt64} {t : List Ser} {i n : Nat} {s : Ser} (h : t[i]? = some s) (hn : n = (timesS life (t.take i)).length) (hl : (life.toNat : Int) ≥ 18446744073709551615 - s.seen.toNat) : n = (timesS life (t.take (i + 1))).length := by
  rw [timesS_snoc h, timeOf, if_pos hl, hn]; simp
theorem timesS_some {life : UInt64} {t : List Ser} {i n : Nat} {s : Ser} (h : t[i]? = some s) (hn : n = (timesS life (t.take i)).length) (hl : ¬ (life.toNat : Int) ≥ 18446744073709551615 - s.seen.toNat) : n + 1 = (timesS life (t.take (i + 1))).length := by
  rw [timesS_snoc h, timeOf, if_neg hl, hn]; simp
theorem timesS_len (life : UInt64) (t : List Ser) : (timesS life t).length ≤ t.length := List.length_filterMap_le _ _
structure IN where
  i : Nat
  n : Nat
structure IM where
  i : Nat
  m : Int
/-- the least one -/
def minLU : List UInt64 → UInt64
  | [] => 0
  | a :: l => l.foldl minU a
theorem minLU_snoc {l : List UInt64} {i : Nat} {a : UInt64} (h0 : 0 < i) (h : l[i]? = some a) : minLU (l.take (i + 1)) = minU (minLU (l.take i)) a := by
  rw [take_snoc h]
  match i, l, h with
  | i + 1, b :: l, h => simp [minLU, List.take_succ_cons, List.foldl_append]
theorem minLU_1 {l : List UInt64} {a : UInt64} (h : l[0]? = some a) : minLU (l.take 1) = a := by
  match l, h with
  | b :: l, h => simpa [minLU] using h

theorem c_times (z : Sli SerV) (life : UInt64) : Ct Tryz.prog 38 [] [z.sv, .int .u64 life.toNat] [] (Rs (fun b : Nat × Nat => .fn 56 [] [.raw (.pointer (some ⟨b.1, 0, none⟩)), .raw (.pointer (some ⟨b.2, 0, none⟩))]) (fun _ => []) (fun b => [blkF b.1 [z.sv] 22, blkF b.2 [.int .u64 life.toNat] 23]) (fun _ => True)) := by
  refine Ct.post (Ct.of Tryz.func38 rfl (n := 6) rfl rfl rfl ?_)
  conv => whnf
  repeat' first
    | (refine Ob.mk rfl ?_; conv => whnf)
    | (refine Nx.mk ?_; conv => whnf)
    | (intro bk; conv => whnf)
    | (show Post _ _ _ _ _; refine Rs.post (_, _) rfl ((Imp.pubCells 0 rfl).trans ((Imp.pubCells 1 rfl).trans (Imp.fs ?_))) trivial; exact ⟨.tail _ (.head _), .head _, trivial⟩)
    | (show Post _ _ _ _ _; refine Rs.post (_, _) rfl ((Imp.pubCells 0 rfl).trans ((Imp.pubCells 1 rfl).trans (Imp.fs ?_))) trivial; exact ⟨.head _, .tail _ (.head _), trivial⟩)
    | (refine Ob.mk (by omega) ?_; conv => whnf)

theorem i_times (z : Sli SerV) (life : UInt64) (b1 b2 : Nat) (hl : z.l.length ≤ 9223372036854775807) : It Tryz.prog 56 [] [.raw (.pointer (some ⟨b1, 0, none⟩)), .raw (.pointer (some ⟨b2, 0, none⟩))] [blkF b1 [z.sv] 22, blkF b2 [.int .u64 life.toNat] 23, z.f encSer 12] ((timesX life (Tab z)).map dens) (fun _ _ => True) := by
  refine It.of Tryz.func56 rfl (n := 26) rfl rfl rfl (fun lp => ?_)
  conv => whnf
  repeat' first
    | (have hse := xe.seen.toNat_lt; have hli := life.toNat_lt; show AR .u64 _ _; refine AR.u64 (by omega) ?_; conv => whnf)
    | (refine Ob.mk rfl ?_; conv => whnf)
    | (refine Nx.mk ?_; conv => whnf)
    | (refine BR.yes ?_; conv => whnf)
    | (refine BR.no ?_; conv => whnf)
    | (intro bk; conv => whnf)
    | (show SemC _ _ _ (.loop (.seq (.region 1 _ _) _)) _ _ _ _ _; refine SemC.loopB (c := (.seq (.region 1 _ _) _)) (fun j : IN => [(8, .int .i64 j.i)]) (fun j => [(0, .seq lp ((timesX life (Tab z)).map dens) (some j.n))]) (fun j => j.i ≤ z.l.length ∧ j.n = (timesS life ((Tab z).take j.i)).length) (fun j => z.l.length - j.i) ⟨0, 0⟩ ?_; (conv => whnf); refine LoopQ.mk ?_ ⟨(by repeat (first | exact trivial | refine ⟨rfl, ?_⟩ | refine ⟨congrArg (Value.int _) (by omega), ?_⟩)), Imp.refl⟩ (fun j hi => ?_))
    | (show Exists _; refine Exists.intro (⟨j.i + 1, j.n⟩) ⟨?_, ?_, rfl, ⟨(by repeat (first | exact trivial | refine ⟨rfl, ?_⟩ | refine ⟨congrArg (Value.int _) (by omega), ?_⟩)), Imp.to 1 rfl (by repeat' (first | exact trivial | exact .head _ | apply List.Mem.tail | apply And.intro))⟩⟩)
    | (show Exists _; refine Exists.intro (⟨j.i + 1, j.n + 1⟩) ⟨?_, ?_, rfl, ⟨(by repeat (first | exact trivial | refine ⟨rfl, ?_⟩ | refine ⟨congrArg (Value.int _) (by omega), ?_⟩)), Imp.to 1 rfl (by repeat' (first | exact trivial | exact .head _ | apply List.Mem.tail | apply And.intro))⟩⟩)
    | (refine Ob.mk ⟨rfl, ?_⟩ ⟨Nx.go ?_, Nx.go ?_⟩)
    | (exact ⟨_, _, rfl, Or.inl rfl, trivial⟩)
    | (refine ⟨_, _, rfl, Or.inr (congrArg some ?_), trivial⟩)
    | (refine Idx.nat ?_; conv => whnf)
    | (refine Idx.is _ rfl ?_; conv => whnf)
    | (show HasP _ _ _ _ _ _; refine HasP.mk' (by repeat (first | exact .head _ | apply List.Mem.tail)) (Nx.go ?_))
    | (show RdE _ _ _ _ _ _ _; refine RdE.s (by repeat (first | exact .head _ | apply List.Mem.tail)) (by omega) (fun xe hxe => Nx.go ?_))
    | (show RdB _ _ _; refine RdB.mk' (by repeat (first | exact .head _ | apply List.Mem.tail)) (Nx.go ?_))
    | (refine AR.i64 (by omega) ?_; conv => whnf)
    | (refine AR.u64 (by omega) ?_; conv => whnf)
    | (refine AR.u8 (by omega) ?_; conv => whnf)
    | (refine Ob.mk (by omega) ?_; conv => whnf)
    | (refine BR.mk (fun h => ?_) (fun h => ?_) <;> (first | rw [Bool.not_eq_true'] at h | rw [Bool.not_eq_false'] at h | skip) <;> (try rw [h]) <;> (first | replace h := of_decide_eq_true h | replace h := of_decide_eq_false h | replace h := eq_of_beq h | replace h := bne_iff_ne.1 h | replace h := beq_eq_false_iff_ne.1 h | replace h := bne_eq_false_iff_eq.1 h | skip) <;> conv => whnf)
  · exact ⟨Nat.zero_le _, rfl⟩
  · exact ⟨by show j.i + 1 ≤ _; omega, timesS_none (tab_at hxe) hi.2 h⟩
  · show z.l.length - (j.i + 1) < _; omega
  · exact timesX_at (tab_at hxe) hi.2 h
  · exact ⟨by show j.i + 1 ≤ _; omega, timesS_some (tab_at hxe) hi.2 h⟩
  · show z.l.length - (j.i + 1) < _; omega
  · rw [List.length_map, List.length_map, hi.2, take_all (by rw [Tab, List.length_map]; omega)]

theorem c_appT (z : Sli SerV) (life : UInt64) (b1 b2 b0 : Nat) (hl : z.l.length ≤ 1000) : Ct Tryz.prog 55 [(b0, .vec encU 1 23 none 0 0 [])] [.vec 0 none 0 0, .fn 56 [] [.raw (.pointer (some ⟨b1, 0, none⟩)), .raw (.pointer (some ⟨b2, 0, none⟩))]] [blkF b1 [z.sv] 22, blkF b2 [.int .u64 life.toNat] 23, z.f encSer 12] (Rs (fun y : VecS UInt64 => .vec 0 y.p y.n y.c) (fun y => [(y.b, .vec encU 1 23 y.p y.n y.c y.L)]) (fun _ => []) (fun y => y.n = y.L.length ∧ y.L = timesS life (Tab z))) := by
  have hT : (timesS life (Tab z)).length ≤ 1000 := Nat.le_trans (timesS_len _ _) (by rw [Tab, List.length_map]; exact hl)
  refine Ct.post (Ct.of Tryz.func55 rfl (n := 13) rfl rfl rfl ?_)
  conv => whnf
  repeat' first
    | (show SemO _ _ (.buildSlice _ _ #[(0, .tmp 9)]) _ _ _ _ _; refine SemO.lit ?_; (conv => whnf); show BsV _ _ _ _ _; refine BsV.s [v] (by repeat (first | exact .nil | refine .cons (by first | rfl | exact encB_of (by omega) | exact encU_U (by omega)) ?_)) (fun xo _ => okU xo) (fun ys hys => Nx.go ?_))
    | (show SemO _ _ (.call ⟨.builtin .append, _, _⟩) _ _ _ _ _; refine SemO.appendVec ?_; (conv => whnf); refine Ob.mk ⟨rfl, rfl, rfl, rfl, rfl⟩ ?_)
    | (show AppV _ _ _ _ _ _ _ _ _ _ _ _ _ _; refine ⟨rfl, _, .fact (by repeat (first | exact .head _ | apply List.Mem.tail)), app_le (N := 1048576) ?_ (of_decide_eq_true (by kernel_rfl)), ?_, fun bv pv cv hcv => Nx.go ?_⟩)
    | (refine Ob.mk rfl ?_; conv => whnf)
    | (refine Nx.mk ?_; conv => whnf)
    | (intro bk; conv => whnf)
    | (show SemC _ _ _ (.rangeFunc _ _ (.region 2 _ _) _) _ _ _ _ _; refine SemC.rangeC (σ := VecS UInt64) (fun lb x => setCells (lb.set 0 (x.b, .vec encU 1 23 x.p x.n x.c x.L)) 1 [.vec 0 x.p x.n x.c]) (fun i x => x.n = i ∧ x.L = (timesS life (Tab z)).take i) (fun c x => False) (timesX life (Tab z)) 2 (i_times z life b1 b2 (by omega)) (⟨b0, none, 0, 0, []⟩) ?_ (fun _ => rfl) (fun D r => Imp.to 4 rfl (by repeat' (first | exact trivial | exact .head _ | apply List.Mem.tail | apply And.intro))) (by repeat' (first | exact trivial | exact .head _ | apply List.Mem.tail | apply And.intro)) rfl (fun D rc nr x a hx ha => ?_) (fun D x o hx => ?_) (fun D c x o hx => ?_))
    | (refine Nx1.mk ?_; obtain ⟨v, hv, rfl⟩ := timesX_inv ha; (conv => whnf))
    | (refine Nx2.mk ?_; exact hx.elim)
    | (show EndS _ _ _ _ _ _ _; refine EndS.mark 2 rfl rfl (fun o => Nx.go ?_))
    | (refine Ob.mk ⟨rfl, rfl⟩ ?_; conv => whnf)
    | (show Exists _; refine Exists.intro (⟨bv, pv, x.n + ys.l.length, cv, x.L ++ ys.l⟩) ⟨?_, Imp.to 4 rfl (by repeat' (first | exact trivial | exact .head _ | apply List.Mem.tail | apply And.intro))⟩)
    | (show Post _ _ _ _ _; refine Rs.post x rfl (Imp.to 1 rfl (by repeat' (first | exact trivial | exact .head _ | apply List.Mem.tail | apply And.intro))) ?_)
    | (show RdB _ _ _; refine RdB.mk' (by repeat (first | exact .head _ | apply List.Mem.tail)) (Nx.go ?_))
    | (refine Ob.mk (by omega) ?_; conv => whnf)
  · exact ⟨rfl, rfl⟩
  all_goals (try (have hvl := (List.getElem?_eq_some_iff.1 hv).1))
  · rw [hys, hx.1, List.length_singleton]; omega
  · rw [hys, hx.1, List.length_singleton]; omega
  · show x.n + ys.l.length = nr + 1 ∧ x.L ++ ys.l = _
    rw [hys]; exact ⟨by rw [hx.1, List.length_singleton], by rw [hx.2, take_snoc hv]⟩
  · obtain ⟨h1, h2⟩ := hx
    rw [List.length_map] at h1 h2
    rw [List.take_length] at h2
    exact ⟨by rw [h1, h2], h2⟩

theorem c_colT (z : Sli SerV) (life : UInt64) (b1 b2 : Nat) (hl : z.l.length ≤ 1000) : Ct Tryz.prog 37 [] [.fn 56 [] [.raw (.pointer (some ⟨b1, 0, none⟩)), .raw (.pointer (some ⟨b2, 0, none⟩))]] [blkF b1 [z.sv] 22, blkF b2 [.int .u64 life.toNat] 23, z.f encSer 12] (Rs (fun y : Sli UInt64 => y.sv) (fun _ => []) (fun y => [y.f encU 1]) (fun y => y.l = timesS life (Tab z))) := by
  refine Ct.post (Ct.of Tryz.func37 rfl (n := 5) rfl rfl rfl ?_)
  conv => whnf
  repeat' first
    | (refine Ob.mk rfl ?_; conv => whnf)
    | (refine Nx.mk ?_; conv => whnf)
    | (show CallK _ _ _ _ _ _ _; refine CallK.pre (Imp.nilVec encU 1 23) (CallK.lendS [0] (c_appT z life b1 b2 0 hl) ⟨rfl, trivial⟩ rfl rfl rfl (by repeat' (first | exact trivial | exact .head _ | apply List.Mem.tail | apply And.intro)) (fun y hy => ⟨rfl, Nx.go ?_⟩)))
    | (show Post _ _ _ _ _; refine Rs.post ⟨y.L, y.p, y.c⟩ (by rw [hy.1]; rfl) ((Imp.pubS 0 rfl hy.1.symm).trans (Imp.fs (by repeat' (first | exact trivial | exact .head _ | apply List.Mem.tail | apply And.intro)))) hy.2)
    | (refine Ob.mk (by omega) ?_; conv => whnf)

theorem c_minT (x : Sli UInt64) (h0 : 0 < x.l.length) (hl : x.l.length ≤ 1000) : Ct Tryz.prog 39 [] [x.sv] [x.f encU 1] (Rv (.int .u64 (minLU x.l).toNat)) := by
  refine Ct.of Tryz.func39 rfl (n := 25) rfl rfl rfl ?_
  conv => whnf
  repeat' first
    | (refine Ob.mk rfl ?_; conv => whnf)
    | (refine Nx.mk ?_; conv => whnf)
    | (refine BR.yes ?_; conv => whnf)
    | (refine BR.no ?_; conv => whnf)
    | (show SemC _ _ _ (.loop (.seq (.seq (.region 5 _ _) _) _)) _ _ _ _ _; refine SemC.loopC (c := (.seq (.seq (.region 5 _ _) _) _)) (fun j : IM => [(3, .int .u64 j.m), (4, .int .i64 j.i)]) (fun j => 0 < j.i ∧ j.i ≤ x.l.length ∧ j.m = ((minLU (x.l.take j.i)).toNat : Int)) (fun j => x.l.length - j.i) ⟨1, xe.toNat⟩ ?_; (conv => whnf); refine LoopQ.mk ?_ ⟨(by repeat (first | exact trivial | refine ⟨rfl, ?_⟩ | refine ⟨congrArg (Value.int _) (by omega), ?_⟩)), Imp.refl⟩ (fun j hi => ?_))
    | (show Exists _; refine Exists.intro (⟨j.i + 1, min j.m xe.toNat⟩) ⟨?_, ?_, rfl, ⟨(by repeat (first | exact trivial | refine ⟨rfl, ?_⟩ | refine ⟨congrArg (Value.int _) (by omega), ?_⟩)), Imp.refl⟩⟩)
    | (refine Idx.nat ?_; conv => whnf)
    | (refine Idx.is _ rfl ?_; conv => whnf)
    | (show HasP _ _ _ _ _ _; refine HasP.mk' (by repeat (first | exact .head _ | apply List.Mem.tail)) (Nx.go ?_))
    | (show RdE _ _ _ _ _ _ _; refine RdE.s (by repeat (first | exact .head _ | apply List.Mem.tail)) (by omega) (fun xe hxe => Nx.go ?_))
    | (show RdB _ _ _; refine RdB.mk' (by repeat (first | exact .head _ | apply List.Mem.tail)) (Nx.go ?_))
    | (refine AR.i64 (by omega) ?_; conv => whnf)
    | (refine AR.u64 (by omega) ?_; conv => whnf)
    | (refine AR.u8 (by omega) ?_; conv => whnf)
    | (refine Ob.mk (by omega) ?_; conv => whnf)
    | (refine BR.mk (fun h => ?_) (fun h => ?_) <;> (first | rw [Bool.not_eq_true'] at h | rw [Bool.not_eq_false'] at h | skip) <;> (try rw [h]) <;> (first | replace h := of_decide_eq_true h | replace h := of_decide_eq_false h | replace h := eq_of_beq h | replace h := bne_iff_ne.1 h | replace h := beq_eq_false_iff_ne.1 h | replace h := bne_eq_false_iff_eq.1 h | skip) <;> conv => whnf)
  · omega
  · exact ⟨Nat.one_pos, by show 1 ≤ _; omega, by show (xe.toNat : Int) = _; rw [minLU_1 hxe]⟩
  · exact ⟨by show 0 < j.i + 1; omega, by show j.i + 1 ≤ _; omega, by show min j.m _ = _; rw [hi.2.2, minU_eq, minLU_snoc hi.1 hxe]⟩
  · show x.l.length - (j.i + 1) < _; omega
  · rw [hi.2.2, take_all (by omega)]; rfl

theorem c_nextN (z : Sli SerV) (life : UInt64) (hs : smallT (Tab z)) (ht : tabR (Tab z) = false) : Ct Tryz.prog 16 [] [z.sv, .int .u64 life.toNat] [z.f encSer 12, allF z.l] (Rv (.tup [.int .u64 0, .bool false])) := by
  refine Ct.of Tryz.func16 rfl (n := 19) rfl rfl rfl ?_
  conv => whnf
  repeat' first
    | (refine Ob.mk rfl ?_; conv => whnf)
    | (refine Nx.mk ?_; conv => whnf)
    | (refine BR.yes ?_; conv => whnf)
    | (refine BR.no ?_; conv => whnf)
    | (show CallK _ _ 26 _ _ _ _; refine CallK.rv (c_cchkN z hs ht) (by repeat' (first | exact trivial | exact .head _ | apply List.Mem.tail | apply And.intro)) (Nx.go ?_))
    | (refine AR.i64 (by omega) ?_; conv => whnf)
    | (refine AR.u64 (by omega) ?_; conv => whnf)
    | (refine AR.u8 (by omega) ?_; conv => whnf)
    | (refine Ob.mk (by omega) ?_; conv => whnf)
    | (refine BR.mk (fun h => ?_) (fun h => ?_) <;> (first | rw [Bool.not_eq_true'] at h | rw [Bool.not_eq_false'] at h | skip) <;> (try rw [h]) <;> (first | replace h := of_decide_eq_true h | replace h := of_decide_eq_false h | replace h := eq_of_beq h | replace h := bne_iff_ne.1 h | replace h := beq_eq_false_iff_ne.1 h | replace h := bne_eq_false_iff_eq.1 h | skip) <;> conv => whnf)
  all_goals rfl

theorem c_nextE (z : Sli SerV) (life : UInt64) (hs : smallT (Tab z)) (ht : tabR (Tab z) = true) (h0 : timesS life (Tab z) = []) : Ct Tryz.prog 16 [] [z.sv, .int .u64 life.toNat] [z.f encSer 12, allF z.l] (Rv (.tup [.int .u64 0, .bool false])) := by
  refine Ct.of Tryz.func16 rfl (n := 19) rfl rfl rfl ?_
  conv => whnf
  repeat' first
    | (show BR (decide ((y.l.length : Int) = 0)) _ _; refine BR.yesK (decide_eq_true (by rw [hy, h0]; rfl)) ?_; conv => whnf)
    | (refine Ob.mk rfl ?_; conv => whnf)
    | (refine Nx.mk ?_; conv => whnf)
    | (refine BR.yes ?_; conv => whnf)
    | (refine BR.no ?_; conv => whnf)
    | (show CallK _ _ 26 _ _ _ _; refine CallK.rv (c_cchkT z hs ht) (by repeat' (first | exact trivial | exact .head _ | apply List.Mem.tail | apply And.intro)) (Nx.go ?_))
    | (show CallK _ _ 38 _ _ _ _; refine CallK.rf (c_times z life) (by repeat' (first | exact trivial | exact .head _ | apply List.Mem.tail | apply And.intro)) (fun b hb => Nx.go ?_))
    | (show CallK _ _ 37 _ _ _ _; refine CallK.rf (c_colT z life b.1 b.2 (by have := tab_len (l := z.l) rfl ht; omega)) (by repeat' (first | exact trivial | exact .head _ | apply List.Mem.tail | apply And.intro)) (fun y hy => Nx.go ?_))
    | (refine AR.i64 (by omega) ?_; conv => whnf)
    | (refine AR.u64 (by omega) ?_; conv => whnf)
    | (refine AR.u8 (by omega) ?_; conv => whnf)
    | (refine Ob.mk (by omega) ?_; conv => whnf)
    | (refine BR.mk (fun h => ?_) (fun h => ?_) <;> (first | rw [Bool.not_eq_true'] at h | rw [Bool.not_eq_false'] at h | skip) <;> (try rw [h]) <;> (first | replace h := of_decide_eq_true h | replace h := of_decide_eq_false h | replace h := eq_of_beq h | replace h := bne_iff_ne.1 h | replace h := beq_eq_false_iff_ne.1 h | replace h := bne_eq_false_iff_eq.1 h | skip) <;> conv => whnf)
  all_goals rfl

theorem c_nextT (z : Sli SerV) (life : UInt64) (hs : smallT (Tab z)) (ht : tabR (Tab z) = true) (h0 : 0 < (timesS life (Tab z)).length) : Ct Tryz.prog 16 [] [z.sv, .int .u64 life.toNat] [z.f encSer 12, allF z.l] (Rv (.tup [.int .u64 (minLU (timesS life (Tab z))).toNat, .bool true])) := by
  refine Ct.of Tryz.func16 rfl (n := 19) rfl rfl rfl ?_
  conv => whnf
  repeat' first
    | (show BR (decide ((y.l.length : Int) = 0)) _ _; refine BR.noK (decide_eq_false (by rw [hy]; omega)) ?_; conv => whnf)
    | (refine Ob.mk rfl ?_; conv => whnf)
    | (refine Nx.mk ?_; conv => whnf)
    | (refine BR.yes ?_; conv => whnf)
    | (refine BR.no ?_; conv => whnf)
    | (show CallK _ _ 26 _ _ _ _; refine CallK.rv (c_cchkT z hs ht) (by repeat' (first | exact trivial | exact .head _ | apply List.Mem.tail | apply And.intro)) (Nx.go ?_))
    | (show CallK _ _ 38 _ _ _ _; refine CallK.rf (c_times z life) (by repeat' (first | exact trivial | exact .head _ | apply List.Mem.tail | apply And.intro)) (fun b hb => Nx.go ?_))
    | (show CallK _ _ 37 _ _ _ _; refine CallK.rf (c_colT z life b.1 b.2 (by have := tab_len (l := z.l) rfl ht; omega)) (by repeat' (first | exact trivial | exact .head _ | apply List.Mem.tail | apply And.intro)) (fun y hy => Nx.go ?_))
    | (show CallK _ _ 39 _ _ _ _; refine CallK.rv (c_minT y (by rw [hy]; exact h0) (by rw [hy]; have h9 := timesS_len life (Tab z); have := tabR_len ht; omega)) (by repeat' (first | exact trivial | exact .head _ | apply List.Mem.tail | apply And.intro)) (Nx.go ?_))
    | (refine AR.i64 (by omega) ?_; conv => whnf)
    | (refine AR.u64 (by omega) ?_; conv => whnf)
    | (refine AR.u8 (by omega) ?_; conv => whnf)
    | (refine Ob.mk (by omega) ?_; conv => whnf)
    | (refine BR.mk (fun h => ?_) (fun h => ?_) <;> (first | rw [Bool.not_eq_true'] at h | rw [Bool.not_eq_false'] at h | skip) <;> (try rw [h]) <;> (first | replace h := of_decide_eq_true h | replace h := of_decide_eq_false h | replace h := eq_of_beq h | replace h := bne_iff_ne.1 h | replace h := beq_eq_false_iff_ne.1 h | replace h := bne_eq_false_iff_eq.1 h | skip) <;> conv => whnf)
  all_goals (rw [hy]; rfl)
end Go.Proofs.YtfgnkadbpjiaiaaGreatDoor

/- clock: K26 -/
namespace Go.Proofs.YtfgnkadbpjiaiaaGreatDoor
open Go.Proofs.YtfgnkadbpjiaiaaGreatDoor.W
set_option maxRecDepth 100000
set_option linter.unusedVariables false
theorem fold_mem : ∀ (l : List UInt64) (a : UInt64), l.foldl minU a ∈ a :: l
  | [], _ => .head _
  | b :: l, a => by
    rw [List.foldl_cons]
    rcases List.mem_cons.1 (fold_mem l (minU a b)) with h | h
    · rw [h]; unfold minU
      split
      · exact .head _
      · exact .tail _ (.head _)
    · exact .tail _ (.tail _ h)
theorem minU_le1 (a b : UInt64) : (minU a b).toNat ≤ a.toNat := by unfold minU; split <;> omega
theorem minU_le2 (a b : UInt64) : (minU a b).toNat ≤ b.toNat := by unfold minU; split <;> omega
theorem fold_le : ∀ (l : List UInt64) (a : UInt64), (l.foldl minU a).toNat ≤ a.toNat ∧ ∀ u ∈ l, (l.foldl minU a).toNat ≤ u.toNat
  | [], _ => ⟨Nat.le_refl _, fun _ h => nomatch h⟩
  | b :: l, a => by
    rw [List.foldl_cons]
    obtain ⟨h1, h2⟩ := fold_le l (minU a b)
    refine ⟨Nat.le_trans h1 (minU_le1 _ _), fun u hu => ?_⟩
    rcases List.mem_cons.1 hu with rfl | hu
    · exact Nat.le_trans h1 (minU_le2 _ _)
    · exact h2 u hu
theorem minLU_mem : ∀ {l : List UInt64}, 0 < l.length → minLU l ∈ l
  | [], h => absurd h (by decide)
  | a :: l, _ => fold_mem l a
theorem minLU_le : ∀ {l : List UInt64} {u : UInt64}, u ∈ l → (minLU l).toNat ≤ u.toNat
  | a :: l, u, h => by
    rcases List.mem_cons.1 h with rfl | h
    · exact (fold_le l _).1
    · exact (fold_le l a).2 u h
theorem stale_iff {now life : UInt64} {s : Ser} : staleS now life s = true ↔ ∃ u, timeOf life s = some u ∧ u.toNat ≤ now.toNat := by
  have h1 := now.toNat_lt
  simp only [staleS, Bool.and_eq_true, decide_eq_true_eq, timeOf]
  split
  · exact ⟨fun h => by omega, fun ⟨u, h, _⟩ => by cases h⟩
  · have h2 : ((U ((s.seen.toNat : Int) + life.toNat + 1)).toNat : Int) = (s.seen.toNat : Int) + life.toNat + 1 := U_is (by omega)
    exact ⟨fun h => ⟨_, rfl, by omega⟩, fun ⟨u, h, h3⟩ => by cases h; omega⟩
theorem keep_all {now life : UInt64} {t : List Ser} (h : ∀ s ∈ t, staleS now life s = false) : keepS now life t = t := List.filter_eq_self.2 fun s hs => by rw [h s hs]; rfl
theorem keep_lt {now life : UInt64} {t : List Ser} {s : Ser} (hs : s ∈ t) (h : staleS now life s = true) : (keepS now life t).length < t.length := by
  rw [keepS]
  exact List.length_filter_lt_length_iff_exists.2 ⟨s, hs, by rw [h]; decide⟩
theorem next_none {now life : UInt64} {t : List Ser} (h : timesS life t = []) : keepS now life t = t := keep_all fun s hs => by
  rcases h1 : staleS now life s
  · rfl
  · obtain ⟨u, h2, _⟩ := stale_iff.1 h1
    have h3 : u ∈ timesS life t := List.mem_filterMap.2 ⟨s, hs, h2⟩
    rw [h] at h3
    cases h3
theorem next_some {now life : UInt64} {t : List Ser} (h : 0 < (timesS life t).length) : (keepS now life t).length < t.length ↔ (minLU (timesS life t)).toNat ≤ now.toNat := by
  constructor
  · intro h1
    by_cases h2 : ∀ s ∈ t, staleS now life s = false
    · rw [keep_all h2] at h1; omega
    · simp only [Classical.not_forall] at h2
      obtain ⟨s, hs, h3⟩ := h2
      obtain ⟨u, h4, h5⟩ := stale_iff.1 (by simpa using h3)
      exact Nat.le_trans (minLU_le (List.mem_filterMap.2 ⟨s, hs, h4⟩)) h5
  · intro h1
    obtain ⟨s, hs, h2⟩ := List.mem_filterMap.1 (minLU_mem h)
    exact keep_lt hs (stale_iff.2 ⟨_, h2, h1⟩)
theorem next_cases (life : UInt64) (t : List Ser) : timesS life t = [] ∨ 0 < (timesS life t).length := by
  cases timesS life t with
  | nil => exact .inl rfl
  | cons a l => exact .inr (Nat.zero_lt_succ _)

theorem c_Next (x : Sli SerV) (now life : UInt64) : Ct Tryz.prog 7 [] [x.sv, .int .u64 now.toNat, .int .u64 life.toNat] [x.f encSer 12, allF x.l] (Rv (.bool true)) := by
  refine Ct.of Tryz.func7 rfl (n := 77) rfl rfl rfl ?_
  conv => whnf
  repeat' first
    | (refine Ob.mk rfl ?_; conv => whnf)
    | (refine Nx.mk ?_; conv => whnf)
    | (refine BR.yes ?_; conv => whnf)
    | (refine BR.no ?_; conv => whnf)
    | (show CallK _ _ _ _ _ _ _; refine CallK.rv c_shown14 (by repeat' (first | exact trivial | exact .head _ | apply List.Mem.tail | apply And.intro)) (Nx.go ?_))
    | (show CallK _ _ 10 _ _ _ _; refine CallK.rf (c_few12 x) (by repeat' (first | exact trivial | exact .head _ | apply List.Mem.tail | apply And.intro)) (fun z hz => Nx.go ?_))
    | (show CallK _ _ 15 _ _ _ _; refine CallK.rv (c_tabRX z (by rw [hz]; exact few12_small _) ht) (by repeat' (first | exact trivial | exact .head _ | apply List.Mem.tail | apply And.intro)) (Nx.go ?_))
    | (show CallK _ _ 16 _ _ _ _; refine CallK.rv (c_nextE z life (by rw [hz]; exact few12_small _) ht h0) (by repeat' (first | exact trivial | exact .head _ | apply List.Mem.tail | apply And.intro)) (Nx.go ?_))
    | (show CallK _ _ 16 _ _ _ _; refine CallK.rv (c_nextT z life (by rw [hz]; exact few12_small _) ht h0) (by repeat' (first | exact trivial | exact .head _ | apply List.Mem.tail | apply And.intro)) (Nx.go ?_))
    | (show CallK _ _ 11 _ _ _ _; refine CallK.rf (c_expT z now life (by rw [hz]; exact few12_small _) ht) (by repeat' (first | exact trivial | exact .head _ | apply List.Mem.tail | apply And.intro)) (fun y hy => Nx.go ?_))
    | (show CallK _ _ 11 _ _ _ _; refine CallK.rf (c_expT z (minLU (timesS life (Tab z))) life (by rw [hz]; exact few12_small _) ht) (by repeat' (first | exact trivial | exact .head _ | apply List.Mem.tail | apply And.intro)) (fun v hv => Nx.go ?_))
    | (show CallK _ _ 11 _ _ _ _; refine CallK.rf (c_expTI z 0 life rfl rfl (by rw [hz]; exact few12_small _) ht) (by repeat' (first | exact trivial | exact .head _ | apply List.Mem.tail | apply And.intro)) (fun v hv => Nx.go ?_))
    | (show CallK _ _ 15 _ _ _ _; rcases ht : tabR (Tab z))
    | (show CallK _ _ 16 _ _ _ _; rcases next_cases life (Tab z) with h0 | h0)
    | (refine AR.i64 (by omega) ?_; conv => whnf)
    | (refine AR.u64 (by omega) ?_; conv => whnf)
    | (refine AR.u8 (by omega) ?_; conv => whnf)
    | (refine Ob.mk (by omega) ?_; conv => whnf)
    | (refine BR.mk (fun h => ?_) (fun h => ?_) <;> (first | rw [Bool.not_eq_true'] at h | rw [Bool.not_eq_false'] at h | skip) <;> (try rw [h]) <;> (first | replace h := of_decide_eq_true h | replace h := of_decide_eq_false h | replace h := eq_of_beq h | replace h := bne_iff_ne.1 h | replace h := beq_eq_false_iff_ne.1 h | replace h := bne_eq_false_iff_eq.1 h | skip) <;> conv => whnf)
  all_goals (have h2 : (Tab z).length = z.l.length := List.length_map _)
  · rfl
  · have h1 := len_of hy.1
    rw [next_none h0] at h1
    exact congrArg SV.bool (beq_iff_eq.2 (by omega))
  · have h1 := len_of hv.1
    have e := (next_some (now := minLU (timesS life (Tab z))) h0).2 (Nat.le_refl _)
    exact congrArg SV.bool (decide_eq_true (by omega))
  · have h1 := len_of hy.1
    have e := next_some (now := now) h0
    exact absurd (decide_eq_decide.2 ⟨fun h3 => by have := e.1 (by omega); omega, fun h3 => by have := e.2 (by omega); omega⟩) h
end Go.Proofs.YtfgnkadbpjiaiaaGreatDoor

/- clock: K27 -/
namespace Go.Proofs.YtfgnkadbpjiaiaaGreatDoor
open Go.Proofs.YtfgnkadbpjiaiaaGreatDoor.W
set_option maxRecDepth 100000
set_option linter.unusedVariables false
open Go.ChangeShapes Go.WideShapes Go.RowKit

set_option maxRecDepth 100000 in
theorem clockNext_lifted (os : Os) (started : os.Started) (H : Type) (enc : TypeId × Value → H) :
    ReturnsInHanded {} Tryz.checked os 7 .any (fun w args => (Rows.clockNextSpec.pre enc Tryz.prog Tryz.f7 [] false w args ∧ laidMetH Tryz.prog laidL w) ∧ sizedMet enc Tryz.prog Tryz.f7 (OpenSpec.ofChange Rows.clockNextSpec) false w args)
      (Rows.clockNextSpec.post enc Tryz.prog Tryz.f7 false true false false) := by
  refine returnsInHanded_of_change_and (C := Tryz.checked) (X := fun w _ => laidMetH Tryz.prog laidL w) (fun _ _ _ hh h => h.of_heap hh) Tryz.own started (by kernel_rfl) Tryz.func7
    (ChangeSpec.witness_at (enc := enc) (C := Tryz.checked) (os := os) (X := fun w _ => laidMetH Tryz.prog laidL w) false (laidWorld os) #[.slice none 0 0, .int .u64 0, .int .u64 0] 8 rfl (by kernel_rfl) (by kernel_rfl) (by kernel_rfl) (by kernel_rfl) (by kernel_rfl) (laidWorld_met os _)) ?_
  intro W base args ds gs before hval0 hW _ _ _ _
  have hval : ∀ (j : Nat) t v, Tryz.f7.params[j]? = some t → args[j]? = some v → Value.okWide Tryz.prog W .any base t v := hval0
  have hW' := hW
  obtain ⟨p, q, hA0, hV, rfl, hfz, hnd⟩ := hW
  have hA : DataW.TrodAll enc Tryz.prog W 0 (fun _ => true) true Tryz.f7.params.toList args.toList ds p := hA0
  rw [Tryz.params7] at hA hval
  obtain ⟨rfl, rfl⟩ := trodVars_none hV
  obtain ⟨v0, vs0, d0, ds0, p0, q0, hargs, rfl, rfl, h0, r0⟩ := trodAll_cons hA
  obtain ⟨v1, vs1, d1, ds1, p1, q1, rfl, rfl, rfl, h1, r1⟩ := trodAll_cons r0
  obtain ⟨v2, vs2, d2, ds2, p2, q2, rfl, rfl, rfl, h2, r2⟩ := trodAll_cons r1
  obtain ⟨rfl, rfl, rfl⟩ := trodAll_nil r2
  obtain rfl : args = #[v0, v1, v2] := by cases args; simp_all
  clear hA0 hval0
  obtain ⟨a0, l0, c0, hv0⟩ := okWide_slice Tryz.underlying22 (hval 0 22 v0 rfl rfl)
  obtain ⟨fuel0, hf0⟩ := h0
  obtain ⟨x0, hx0, hh0⟩ := open_sers hf0
  obtain rfl : v0 = x0.sv.den := by rw [hv0] at hx0 ⊢; simpa [Value.cells] using hx0
  obtain ⟨n1, rfl, rfl, rfl, w1⟩ := open_int Tryz.underlying23 (hval 1 23 v1 rfl rfl) h1
  obtain ⟨u1, rfl⟩ : ∃ u : UInt64, n1 = (u.toNat : Int) := ⟨U n1, (U_is (wf_u64 w1)).symm⟩
  obtain ⟨n2, rfl, rfl, rfl, w2⟩ := open_int Tryz.underlying23 (hval 2 23 v2 rfl rfl) h2
  obtain ⟨u2, rfl⟩ : ∃ u : UInt64, n2 = (u.toNat : Int) := ⟨U n2, (U_is (wf_u64 w2)).symm⟩
  refine (Ct.run (c_Next x0 u1 u2) hh0).mono fun e W' ⟨r, bs, Ψ, he, hk, hr⟩ => ?_
  have hr' : r = .bool true := hr
  subst hr'
  subst he
  exact ⟨_, rfl, law_post (tb := 4) Tryz.kids Tryz.full hW' rfl (by rw [Tryz.params7]; decide) (by kernel_rfl) Tryz.underlying4 rfl hk⟩
theorem clockNext_holds : Rows.ClockNextSaid :=
  OpenClaim.holds_of_wide 7 Tryz.f7 rfl rfl rfl rfl rfl rfl rfl ⟨rfl, rfl, rfl, rfl, rfl⟩ rfl rfl rfl rfl rfl (by kernel_rfl) Tryz.func7 (by kernel_rfl)
    (of_decide_eq_true (by kernel_rfl)) (by unfold Func.isWrapper; first | (rw [if_pos (by decide +kernel)]; kernel_rfl) | (rw [if_neg (by decide +kernel)]; exact ⟨rfl, rfl⟩))
    (fun os started H enc _ => clockNext_lifted os started H enc)

open Go
/-- the card -/
theorem clockNext_card : Rows.ClockNextCardSaid :=
  Claim7.holds_tied_plain_at .later [] [.handle] true (true, "19007259db43c8c4ceab7027926c06824a37d9492bc23d59c0da673ba9433e41") true
    clockNext_holds (fun _ h => by cases h) (by kernel_rfl) (fun _ h => by cases h) clockNext_row_tie rfl ⟨rfl, rfl⟩ (by kernel_rfl) rfl
    (fun f fn hf hfn => by
      obtain rfl : f = 7 := Option.some.inj ((show Tryz.prog.funcNamed "aviary/aviarylaw14.ClockNext" = some 7 by kernel_rfl).symm.trans hf) |>.symm
      obtain rfl : fn = Tryz.f7 := (Option.some.inj (Tryz.func7.symm.trans hfn)).symm
      exact ⟨by kernel_rfl, fun j t ht => by
        rw [Tryz.params7] at ht
        match j, ht with
        | 0, ht => obtain rfl : t = 22 := (Option.some.inj ht).symm; exact (show Tryz.prog.wantsStandIn 22 = false by kernel_rfl)
        | 1, ht => obtain rfl : t = 23 := (Option.some.inj ht).symm; exact (show Tryz.prog.wantsStandIn 23 = false by kernel_rfl)
        | 2, ht => obtain rfl : t = 23 := (Option.some.inj ht).symm; exact (show Tryz.prog.wantsStandIn 23 = false by kernel_rfl)
        | j + 3, ht => simp at ht⟩)
    (by kernel_rfl)
end Go.Proofs.YtfgnkadbpjiaiaaGreatDoor
