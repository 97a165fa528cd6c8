/- YtfgnkadbpjiaiaaGreatDoorTB: a part of the proofs of given statements of this seat; no condition beyond them. -/
import Derived.Test.YtfgnkadbpjiaiaaGreatDoorTA
set_option linter.unusedVariables false
/- clock: K5 -/
namespace Go.Proofs.YtfgnkadbpjiaiaaGreatDoor
open Go.Proofs.YtfgnkadbpjiaiaaGreatDoor.W
set_option maxRecDepth 100000
set_option linter.unusedVariables false
/-- a string's runes, from a place on, each with its place -/
def runsF (s : ByteArray) : Nat → Nat → List (Nat × Nat)
  | 0, _ => []
  | f + 1, p => if p < s.size then (p, (Utf8.decode s p).1) :: runsF s f (p + (Utf8.decode s p).2) else []
theorem runsF_more {s : ByteArray} : ∀ {f g p : Nat}, s.size - p ≤ f → s.size - p ≤ g → runsF s f p = runsF s g p
  | 0, 0, _, _, _ => rfl
  | 0, g + 1, p, h, _ => by rw [runsF, runsF, if_neg (by omega)]
  | f + 1, 0, p, _, h => by rw [runsF, runsF, if_neg (by omega)]
  | f + 1, g + 1, p, h1, h2 => by
    have := decode_width s p
    rw [runsF, runsF]
    split
    · rw [runsF_more (f := f) (g := g) (by omega) (by omega)]
    · rfl
def runsA (s : List UInt8) (p : Nat) : List (Nat × Nat) := runsF ⟨s.toArray⟩ (s.length - p) p
/-- a string's runes, each with its place -/
def runs (s : List UInt8) : List (Nat × Nat) := runsA s 0
theorem bsize (s : List UInt8) : (⟨s.toArray⟩ : ByteArray).size = s.length := by simp [ByteArray.size]
theorem runsA_step {s : List UInt8} {p : Nat} (h : p < (⟨s.toArray⟩ : ByteArray).size) : runsA s p = (p, (Utf8.decode ⟨s.toArray⟩ p).1) :: runsA s (p + (Utf8.decode ⟨s.toArray⟩ p).2) := by
  rw [bsize] at h
  have hw := decode_width ⟨s.toArray⟩ p
  rw [runsA, show s.length - p = (s.length - p - 1) + 1 by omega, runsF, if_pos (by rw [bsize]; exact h)]
  congr 1
  exact runsF_more (by rw [bsize]; omega) (by rw [bsize]; omega)
theorem runsA_end {s : List UInt8} {p : Nat} (h : ¬ p < (⟨s.toArray⟩ : ByteArray).size) : runsA s p = [] := by
  rw [bsize] at h
  rw [runsA, show s.length - p = 0 by omega, runsF]
theorem all_no {s : List UInt8} {j : Nat} {c : Nat × Nat → Bool} (hi : (runs s).all c = (runsA s j).all c) (hj : j < (⟨s.toArray⟩ : ByteArray).size) (hc : c (j, (Utf8.decode ⟨s.toArray⟩ j).1) = false) : (runs s).all c = false := by
  rw [hi, runsA_step hj, List.all_cons, hc]; rfl
theorem all_step {s : List UInt8} {j : Nat} {c : Nat × Nat → Bool} (hi : (runs s).all c = (runsA s j).all c) (hj : j < (⟨s.toArray⟩ : ByteArray).size) (hc : c (j, (Utf8.decode ⟨s.toArray⟩ j).1) = true) : (runs s).all c = (runsA s (j + (Utf8.decode ⟨s.toArray⟩ j).2)).all c := by
  rw [hi, runsA_step hj, List.all_cons, hc, Bool.true_and]
theorem all_end {s : List UInt8} {j : Nat} {c : Nat × Nat → Bool} (hi : (runs s).all c = (runsA s j).all c) (hj : ¬ j < (⟨s.toArray⟩ : ByteArray).size) : (runs s).all c = true := by
  rw [hi, runsA_end hj]; rfl
theorem mu_step {s : List UInt8} {j : Nat} (hj : j < (⟨s.toArray⟩ : ByteArray).size) : s.length - (j + (Utf8.decode ⟨s.toArray⟩ j).2) < s.length - j := by
  rw [bsize] at hj; have := decode_width ⟨s.toArray⟩ j; omega
theorem runsF_len {s : ByteArray} : ∀ f p : Nat, (runsF s f p).length ≤ s.size - p
  | 0, p => Nat.zero_le _
  | f + 1, p => by
    have hw := decode_width s p
    rw [runsF]
    split
    · have := runsF_len (s := s) f (p + (Utf8.decode s p).2)
      rw [List.length_cons]; omega
    · exact Nat.zero_le _
theorem runs_len (s : List UInt8) : (runs s).length ≤ s.length := by
  have := runsF_len (s := ⟨s.toArray⟩) (s.length - 0) 0
  rw [bsize] at this; exact this
theorem any_no {s : List UInt8} {j : Nat} {c : Nat × Nat → Bool} (hi : (runs s).any c = (runsA s j).any c) (hj : j < (⟨s.toArray⟩ : ByteArray).size) (hc : c (j, (Utf8.decode ⟨s.toArray⟩ j).1) = true) : (runs s).any c = true := by
  rw [hi, runsA_step hj, List.any_cons, hc]; rfl
theorem any_step {s : List UInt8} {j : Nat} {c : Nat × Nat → Bool} (hi : (runs s).any c = (runsA s j).any c) (hj : j < (⟨s.toArray⟩ : ByteArray).size) (hc : c (j, (Utf8.decode ⟨s.toArray⟩ j).1) = false) : (runs s).any c = (runsA s (j + (Utf8.decode ⟨s.toArray⟩ j).2)).any c := by
  rw [hi, runsA_step hj, List.any_cons, hc, Bool.false_or]
theorem any_end {s : List UInt8} {j : Nat} {c : Nat × Nat → Bool} (hi : (runs s).any c = (runsA s j).any c) (hj : ¬ j < (⟨s.toArray⟩ : ByteArray).size) : (runs s).any c = false := by
  rw [hi, runsA_end hj]; rfl
theorem len_step {s : List UInt8} {j n : Nat} (hi : (runs s).length = n + (runsA s j).length) (hj : j < (⟨s.toArray⟩ : ByteArray).size) : (runs s).length = (n + 1) + (runsA s (j + (Utf8.decode ⟨s.toArray⟩ j).2)).length := by
  rw [hi, runsA_step hj, List.length_cons]; omega
def hasPre (s p : List UInt8) : Bool := decide (s.take p.length = p)
def runeOk (s : List UInt8) (x : Nat × Nat) : Bool := !((x.2 : Int) == 65533) || hasPre (s.drop x.1) [239, 191, 189]
def runesR (s : List UInt8) : SV := if (runs s).all (runeOk s) = true then .tup [.int .i64 (runs s).length, .bool true] else .tup [.int .i64 0, .bool false]
def nameC (x : Nat × Nat) : Bool := decide (97 ≤ (x.2 : Int) ∧ (x.2 : Int) ≤ 122)
def nameR (s : List UInt8) : Bool := (runs s).all nameC && decide (s ≠ []) && decide (s.length ≤ 12)
def ctlC (x : Nat × Nat) : Bool := decide ((x.2 : Int) < 32) || decide ((x.2 : Int) = 127)

theorem c_hpL (s p : List UInt8) : Ct Tryz.prog 142 [] [.str s, .str p] [] (Rv (.bool (hasPre s p))) := by
  refine Ct.of Tryz.func142 rfl (n := 18) rfl rfl rfl ?_
  conv => whnf
  repeat' first
    | (refine Ob.mk rfl ?_; conv => whnf)
    | (refine Nx.mk ?_; conv => whnf)
    | (refine BR.yes ?_; conv => whnf)
    | (refine BR.no ?_; conv => whnf)
    | (refine Idx.nat ?_; conv => whnf)
    | (refine Idx.is _ rfl ?_; conv => whnf)
    | (show SlW _ _ _ _ _ _ _ _ _; refine SlW.s (by repeat (first | exact .head _ | apply List.Mem.tail)) (by omega) (fun ys hys hcs => Nx.go ?_))
    | (refine AR.i64 (by omega) ?_; conv => whnf)
    | (refine AR.u64 (by omega) ?_; conv => whnf)
    | (refine AR.u8 (by omega) ?_; conv => whnf)
    | (refine Ob.mk (by omega) ?_; conv => whnf)
    | (refine BR.mk (fun h => ?_) (fun h => ?_) <;> (first | rw [Bool.not_eq_true'] at h | rw [Bool.not_eq_false'] at h | skip) <;> (try rw [h]) <;> (first | replace h := of_decide_eq_true h | replace h := of_decide_eq_false h | replace h := eq_of_beq h | replace h := bne_iff_ne.1 h | replace h := beq_eq_false_iff_ne.1 h | replace h := bne_eq_false_iff_eq.1 h | skip) <;> conv => whnf)
  all_goals grind [resS, hasPre]

theorem c_hp (s p : List UInt8) : Ct Tryz.prog 131 [] [.str s, .str p] [] (Rv (.bool (hasPre s p))) := by
  refine Ct.of Tryz.func131 rfl (n := 8) rfl rfl rfl ?_
  conv => whnf
  repeat' first
    | (refine Ob.mk rfl ?_; conv => whnf)
    | (refine Nx.mk ?_; conv => whnf)
    | (show CallK _ _ 142 _ _ _ _; refine CallK.rv (c_hpL _ _) (by repeat' (first | exact trivial | exact .head _ | apply List.Mem.tail | apply And.intro)) (Nx.go ?_))
    | (refine Ob.mk (by omega) ?_; conv => whnf)
  rfl

theorem c_isName (s : List UInt8) (hs : s.length ≤ 9223372036854775807) : Ct Tryz.prog 97 [] [.str s] [] (Rv (.bool (nameR s))) := by
  refine Ct.of Tryz.func97 rfl (n := 23) rfl rfl rfl ?_
  conv => whnf
  repeat' first
    | (show SemO _ _ (.range _ _) _ _ _ _ _; refine SemO.rangeStr ?_; (conv => whnf); intro bk; conv => whnf)
    | (show SemO _ _ (.next _ true) _ _ _ _ _; refine SemO.nextStr ?_; (conv => whnf); refine Ob.mk ⟨rfl, rfl, rfl⟩ ?_; conv => whnf)
    | (refine Ob.mk rfl ?_; conv => whnf)
    | (refine Nx.mk ?_; conv => whnf)
    | (refine BR.yes ?_; conv => whnf)
    | (refine BR.no ?_; conv => whnf)
    | (show SemC _ _ _ (.loop (.seq (.region 2 _ _) _)) _ _ _ _ _; refine SemC.loopB (c := (.seq (.region 2 _ _) _)) (fun j : Nat => []) (fun j => [(bk, .obj (.stringIter ⟨s.toArray⟩ j))]) (fun j => (runs s).all nameC = (runsA s j).all nameC) (fun j => s.length - j) 0 ?_; (conv => whnf); refine LoopQ.mk ?_ ⟨(by repeat (first | exact trivial | refine ⟨rfl, ?_⟩ | refine ⟨congrArg (Value.int _) (by omega), ?_⟩)), Imp.refl⟩ (fun j hi => ?_))
    | (show Exists _; refine Exists.intro (j + (Utf8.decode ⟨s.toArray⟩ j).2) ⟨?_, ?_, rfl, ⟨(by repeat (first | exact trivial | refine ⟨rfl, ?_⟩ | refine ⟨congrArg (Value.int _) (by omega), ?_⟩)), Imp.to 1 rfl (by repeat' (first | exact trivial | exact .head _ | apply List.Mem.tail | apply And.intro))⟩⟩)
    | (refine AR.i64 (by omega) ?_; conv => whnf)
    | (refine AR.u64 (by omega) ?_; conv => whnf)
    | (refine AR.u8 (by omega) ?_; conv => whnf)
    | (refine Ob.mk (by omega) ?_; conv => whnf)
    | (refine BR.mk (fun h => ?_) (fun h => ?_) <;> (first | rw [Bool.not_eq_true'] at h | rw [Bool.not_eq_false'] at h | skip) <;> (try rw [h]) <;> (first | replace h := of_decide_eq_true h | replace h := of_decide_eq_false h | replace h := eq_of_beq h | replace h := bne_iff_ne.1 h | replace h := beq_eq_false_iff_ne.1 h | replace h := bne_eq_false_iff_eq.1 h | skip) <;> conv => whnf)
  · rfl
  all_goals (try exact mu_step (by assumption))
  · rw [nameR, all_no hi (by assumption) (by simp only [nameC, decide_eq_false_iff_not]; omega)]; rfl
  · rw [nameR, all_no hi (by assumption) (by simp only [nameC, decide_eq_false_iff_not]; omega)]; rfl
  · exact all_step hi (by assumption) (by simp only [nameC, decide_eq_true_eq]; omega)
  · rw [nameR, all_end hi (by assumption), decide_eq_true h]; simp only [resS, Bool.true_and]; congr 1; exact decide_eq_decide.2 (by omega)
  · rw [nameR, all_end hi (by assumption), decide_eq_false (by simpa using h)]; rfl

structure RunJ where
  p : Nat
  n : Nat

theorem c_runes (s : List UInt8) (hs : s.length ≤ 9223372036854775807) : Ct Tryz.prog 114 [] [.str s] [] (Rv (runesR s)) := by
  refine Ct.of Tryz.func114 rfl (n := 25) rfl rfl rfl ?_
  conv => whnf
  repeat' first
    | (show SemO _ _ (.range _ _) _ _ _ _ _; refine SemO.rangeStr ?_; (conv => whnf); intro bk; conv => whnf)
    | (show SemO _ _ (.next _ true) _ _ _ _ _; refine SemO.nextStr ?_; (conv => whnf); refine Ob.mk ⟨rfl, rfl, rfl⟩ ?_; conv => whnf)
    | (show Ob (_ ≤ s.length ∧ s.length ≤ s.length) _; refine Ob.mk ⟨Nat.le_of_lt (by rw [← bsize]; assumption), Nat.le_refl _⟩ ?_; conv => whnf)
    | (show AR .i64 ((j.n : Int) + 1) _; refine AR.i64 (by have h1 := len_step hi.2 (by assumption); have h2 := runs_len s; omega) ?_; conv => whnf)
    | (refine Ob.mk rfl ?_; conv => whnf)
    | (refine Nx.mk ?_; conv => whnf)
    | (refine BR.yes ?_; conv => whnf)
    | (refine BR.no ?_; conv => whnf)
    | (show CallK _ _ 131 _ _ _ _; refine CallK.rv (c_hp _ _) (by repeat' (first | exact trivial | exact .head _ | apply List.Mem.tail | apply And.intro)) (Nx.go ?_))
    | (show SemC _ _ _ (.loop (.seq (.region 3 _ _) _)) _ _ _ _ _; refine SemC.loopB (c := (.seq (.region 3 _ _) _)) (fun j : RunJ => [(4, .int .i64 j.n)]) (fun j => [(bk, .obj (.stringIter ⟨s.toArray⟩ j.p))]) (fun j => (runs s).all (runeOk s) = (runsA s j.p).all (runeOk s) ∧ (runs s).length = j.n + (runsA s j.p).length) (fun j => s.length - j.p) ⟨0, 0⟩ ?_; (conv => whnf); refine LoopQ.mk ?_ ⟨(by repeat (first | exact trivial | refine ⟨rfl, ?_⟩ | refine ⟨congrArg (Value.int _) (by omega), ?_⟩)), Imp.refl⟩ (fun j hi => ?_))
    | (show Exists _; refine Exists.intro (⟨j.p + (Utf8.decode ⟨s.toArray⟩ j.p).2, j.n + 1⟩) ⟨?_, ?_, rfl, ⟨(by repeat (first | exact trivial | refine ⟨rfl, ?_⟩ | refine ⟨congrArg (Value.int _) (by omega), ?_⟩)), Imp.to 1 rfl (by repeat' (first | exact trivial | exact .head _ | apply List.Mem.tail | apply And.intro))⟩⟩)
    | (refine Idx.nat ?_; conv => whnf)
    | (refine Idx.is _ rfl ?_; conv => whnf)
    | (show SlW _ _ _ _ _ _ _ _ _; refine SlW.s (by repeat (first | exact .head _ | apply List.Mem.tail)) (by omega) (fun ys hys hcs => Nx.go ?_))
    | (refine AR.i64 (by omega) ?_; conv => whnf)
    | (refine AR.u64 (by omega) ?_; conv => whnf)
    | (refine AR.u8 (by omega) ?_; conv => whnf)
    | (refine Ob.mk (by omega) ?_; conv => whnf)
    | (refine BR.mk (fun h => ?_) (fun h => ?_) <;> (first | rw [Bool.not_eq_true'] at h | rw [Bool.not_eq_false'] at h | skip) <;> (try rw [h]) <;> (first | replace h := of_decide_eq_true h | replace h := of_decide_eq_false h | replace h := eq_of_beq h | replace h := bne_iff_ne.1 h | replace h := beq_eq_false_iff_ne.1 h | replace h := bne_eq_false_iff_eq.1 h | skip) <;> conv => whnf)
  · exact ⟨rfl, by show _ = 0 + _; rw [Nat.zero_add]; rfl⟩
  all_goals (try rw [List.take_length] at h)
  all_goals (try (change ¬ (s.drop j.p).take 3 = [239, 191, 189] at h))
  all_goals (try (change (s.drop j.p).take 3 = [239, 191, 189] at h))
  all_goals (try exact mu_step (by assumption))
  all_goals (try (have hc : runeOk s (j.p, (Utf8.decode ⟨s.toArray⟩ j.p).1) = true := (by simp only [runeOk, hasPre, List.length_cons, List.length_nil]; simp_all); exact ⟨all_step hi.1 (by assumption) hc, len_step hi.2 (by assumption)⟩))
  all_goals (try (have hc : runeOk s (j.p, (Utf8.decode ⟨s.toArray⟩ j.p).1) = false := (by simp only [runeOk, hasPre, List.length_cons, List.length_nil]; simp_all); rw [runesR, if_neg (by rw [all_no hi.1 (by assumption) hc]; decide)]; rfl))
  all_goals (rw [runesR, if_pos (all_end hi.1 (by assumption)), hi.2, runsA_end (by assumption)]; rfl)

theorem c_ctl (r : Int) : Ct Tryz.prog 115 [] [.int .i32 r] [] (Rv (.bool (decide (r < 32) || decide (r = 127)))) := by
  refine Ct.of Tryz.func115 rfl (n := 9) rfl rfl rfl ?_
  conv => whnf
  repeat' first
    | (refine Ob.mk rfl ?_; conv => whnf)
    | (refine Nx.mk ?_; conv => whnf)
    | (refine BR.yes ?_; conv => whnf)
    | (refine BR.no ?_; conv => whnf)
    | (refine AR.i64 (by omega) ?_; conv => whnf)
    | (refine AR.u64 (by omega) ?_; conv => whnf)
    | (refine AR.u8 (by omega) ?_; conv => whnf)
    | (refine Ob.mk (by omega) ?_; conv => whnf)
    | (refine BR.mk (fun h => ?_) (fun h => ?_) <;> (first | rw [Bool.not_eq_true'] at h | rw [Bool.not_eq_false'] at h | skip) <;> (try rw [h]) <;> (first | replace h := of_decide_eq_true h | replace h := of_decide_eq_false h | replace h := eq_of_beq h | replace h := bne_iff_ne.1 h | replace h := beq_eq_false_iff_ne.1 h | replace h := bne_eq_false_iff_eq.1 h | skip) <;> conv => whnf)
  all_goals grind [resS]

theorem c_idxF (s : List UInt8) : Ct Tryz.prog 143 [] [.str s, .fn 115 [] [], .bool true] [] (Rs (fun n : Int => .int .i64 n) (fun _ => []) (fun _ => []) (fun n => (0 ≤ n) = ((runs s).any ctlC = true))) := by
  refine Ct.post (Ct.of Tryz.func143 rfl (n := 21) rfl rfl rfl ?_)
  conv => whnf
  repeat' first
    | (show SemO _ _ (.range _ _) _ _ _ _ _; refine SemO.rangeStr ?_; (conv => whnf); intro bk; conv => whnf)
    | (show SemO _ _ (.next _ true) _ _ _ _ _; refine SemO.nextStr ?_; (conv => whnf); refine Ob.mk ⟨rfl, rfl, rfl⟩ ?_; conv => whnf)
    | (refine Ob.mk rfl ?_; conv => whnf)
    | (refine Nx.mk ?_; conv => whnf)
    | (refine BR.yes ?_; conv => whnf)
    | (refine BR.no ?_; conv => whnf)
    | (show CallK _ _ 115 _ _ _ _; refine CallK.rv (c_ctl _) (by repeat' (first | exact trivial | exact .head _ | apply List.Mem.tail | apply And.intro)) (Nx.go ?_))
    | (show SemC _ _ _ (.loop (.seq (.region 2 _ _) _)) _ _ _ _ _; refine SemC.loopB (c := (.seq (.region 2 _ _) _)) (fun j : Nat => []) (fun j => [(bk, .obj (.stringIter ⟨s.toArray⟩ j))]) (fun j => (runs s).any ctlC = (runsA s j).any ctlC) (fun j => s.length - j) 0 ?_; (conv => whnf); refine LoopQ.mk ?_ ⟨(by repeat (first | exact trivial | refine ⟨rfl, ?_⟩ | refine ⟨congrArg (Value.int _) (by omega), ?_⟩)), Imp.refl⟩ (fun j hi => ?_))
    | (show Exists _; refine Exists.intro (j + (Utf8.decode ⟨s.toArray⟩ j).2) ⟨?_, ?_, rfl, ⟨(by repeat (first | exact trivial | refine ⟨rfl, ?_⟩ | refine ⟨congrArg (Value.int _) (by omega), ?_⟩)), Imp.to 1 rfl (by repeat' (first | exact trivial | exact .head _ | apply List.Mem.tail | apply And.intro))⟩⟩)
    | (show Post _ _ _ _ _; exact Rs.post (j : Int) rfl (Imp.fs (by repeat' (first | exact trivial | exact .head _ | apply List.Mem.tail | apply And.intro))) (by rw [any_no hi (by assumption) h]; simp))
    | (show Post _ _ _ _ _; exact Rs.post (-1 : Int) rfl (Imp.fs (by repeat' (first | exact trivial | exact .head _ | apply List.Mem.tail | apply And.intro))) (by rw [any_end hi (by assumption)]; simp))
    | (refine AR.i64 (by omega) ?_; conv => whnf)
    | (refine AR.u64 (by omega) ?_; conv => whnf)
    | (refine AR.u8 (by omega) ?_; conv => whnf)
    | (refine Ob.mk (by omega) ?_; conv => whnf)
    | (refine BR.mk (fun h => ?_) (fun h => ?_) <;> (first | rw [Bool.not_eq_true'] at h | rw [Bool.not_eq_false'] at h | skip) <;> (try rw [h]) <;> (first | replace h := of_decide_eq_true h | replace h := of_decide_eq_false h | replace h := eq_of_beq h | replace h := bne_iff_ne.1 h | replace h := beq_eq_false_iff_ne.1 h | replace h := bne_eq_false_iff_eq.1 h | skip) <;> conv => whnf)
  · rfl
  · exact any_step hi (by assumption) (by simpa [ctlC] using h)
  · exact mu_step (by assumption)

theorem c_idxS (s : List UInt8) : Ct Tryz.prog 132 [] [.str s, .fn 115 [] []] [] (Rs (fun n : Int => .int .i64 n) (fun _ => []) (fun _ => []) (fun n => (0 ≤ n) = ((runs s).any ctlC = true))) := by
  refine Ct.post (Ct.of Tryz.func132 rfl (n := 8) rfl rfl rfl ?_)
  conv => whnf
  repeat' first
    | (refine Ob.mk rfl ?_; conv => whnf)
    | (refine Nx.mk ?_; conv => whnf)
    | (show CallK _ _ 143 _ _ _ _; refine CallK.rf (c_idxF s) (by repeat' (first | exact trivial | exact .head _ | apply List.Mem.tail | apply And.intro)) (fun n hn => Nx.go ?_))
    | (show Post _ _ _ _ _; exact Rs.post n rfl (Imp.fs (by repeat' (first | exact trivial | exact .head _ | apply List.Mem.tail | apply And.intro))) hn)
    | (refine Ob.mk (by omega) ?_; conv => whnf)

theorem c_cfS (s : List UInt8) : Ct Tryz.prog 116 [] [.str s, .fn 115 [] []] [] (Rv (.bool ((runs s).any ctlC))) := by
  refine Ct.of Tryz.func116 rfl (n := 9) rfl rfl rfl ?_
  conv => whnf
  repeat' first
    | (refine Ob.mk rfl ?_; conv => whnf)
    | (refine Nx.mk ?_; conv => whnf)
    | (show CallK _ _ 132 _ _ _ _; refine CallK.rf (c_idxS s) (by repeat' (first | exact trivial | exact .head _ | apply List.Mem.tail | apply And.intro)) (fun n hn => Nx.go ?_))
    | (refine AR.i64 (by omega) ?_; conv => whnf)
    | (refine AR.u64 (by omega) ?_; conv => whnf)
    | (refine AR.u8 (by omega) ?_; conv => whnf)
    | (refine Ob.mk (by omega) ?_; conv => whnf)
  all_goals grind [resS]

def valueR (s : List UInt8) : Bool := (runs s).all (runeOk s) && decide ((runs s).length ≤ 24) && !((runs s).any ctlC)
theorem c_runesT (s : List UInt8) (hs : s.length ≤ 9223372036854775807) (h : (runs s).all (runeOk s) = true) : Ct Tryz.prog 114 [] [.str s] [] (Rv (.tup [.int .i64 (runs s).length, .bool true])) := by
  have h1 := c_runes s hs
  rw [runesR, if_pos h] at h1; exact h1
theorem c_runesN (s : List UInt8) (hs : s.length ≤ 9223372036854775807) (h : ¬ (runs s).all (runeOk s) = true) : Ct Tryz.prog 114 [] [.str s] [] (Rv (.tup [.int .i64 0, .bool false])) := by
  have h1 := c_runes s hs
  rw [runesR, if_neg h] at h1; exact h1

theorem c_isValue (s : List UInt8) (hs : s.length ≤ 9223372036854775807) : Ct Tryz.prog 98 [] [.str s] [] (Rv (.bool (valueR s))) := by
  refine Ct.of Tryz.func98 rfl (n := 22) rfl rfl rfl ?_
  conv => whnf
  repeat' first
    | (refine Ob.mk rfl ?_; conv => whnf)
    | (refine Nx.mk ?_; conv => whnf)
    | (refine BR.yes ?_; conv => whnf)
    | (refine BR.no ?_; conv => whnf)
    | (show CallK _ _ 114 _ _ _ _; refine CallK.rv (c_runesT s hs hr) (by repeat' (first | exact trivial | exact .head _ | apply List.Mem.tail | apply And.intro)) (Nx.go ?_))
    | (show CallK _ _ 114 _ _ _ _; refine CallK.rv (c_runesN s hs hr) (by repeat' (first | exact trivial | exact .head _ | apply List.Mem.tail | apply And.intro)) (Nx.go ?_))
    | (show CallK _ _ 116 _ _ _ _; refine CallK.rv (c_cfS s) (by repeat' (first | exact trivial | exact .head _ | apply List.Mem.tail | apply And.intro)) (Nx.go ?_))
    | (show CallK _ _ 114 _ _ _ _; by_cases hr : (runs s).all (runeOk s) = true)
    | (refine AR.i64 (by omega) ?_; conv => whnf)
    | (refine AR.u64 (by omega) ?_; conv => whnf)
    | (refine AR.u8 (by omega) ?_; conv => whnf)
    | (refine Ob.mk (by omega) ?_; conv => whnf)
    | (refine BR.mk (fun h => ?_) (fun h => ?_) <;> (first | rw [Bool.not_eq_true'] at h | rw [Bool.not_eq_false'] at h | skip) <;> (try rw [h]) <;> (first | replace h := of_decide_eq_true h | replace h := of_decide_eq_false h | replace h := eq_of_beq h | replace h := bne_iff_ne.1 h | replace h := beq_eq_false_iff_ne.1 h | replace h := bne_eq_false_iff_eq.1 h | skip) <;> conv => whnf)
  all_goals grind [resS, valueR]

theorem allL_no {α : Type} {l : List α} {i : Nat} {x : α} {c : α → Bool} (h : l[i]? = some x) (hc : c x = false) : l.all c = false :=
  Bool.eq_false_iff.2 fun h2 => by rw [List.all_eq_true] at h2; rw [h2 _ (List.mem_of_getElem? h)] at hc; cases hc
theorem allL_step {α : Type} {l : List α} {i : Nat} {x : α} {c : α → Bool} (hi : (l.take i).all c = true) (h : l[i]? = some x) (hc : c x = true) : (l.take (i + 1)).all c = true := by
  rw [take_snoc h, List.all_append, hi]; simp [hc]
structure Lab where
  name : List UInt8
  value : List UInt8
  deriving DecidableEq
def encLab (x : Lab) : List SV := [.str x.name, .str x.value]
theorem okLab (x : Lab) : okE encLab 2 x := ⟨rfl, rfl⟩
def labC (x : Lab) : Bool := nameR x.name && valueR x.value
/-- each name is ahead of the next one -/
def risesL : List Lab → Bool
  | a :: b :: l => Op.bytesLess a.name b.name && risesL (b :: l)
  | _ => true
def labR (l : List Lab) : Bool := decide (0 < l.length) && decide (l.length ≤ 6) && l.all labC && risesL l
def smallL (l : List Lab) : Prop := ∀ y ∈ l, y.name.length ≤ 1000 ∧ y.value.length ≤ 1000
def encLab2 (a b : Lab) : List SV := [.agg (encLab a), .agg (encLab b)]
def pairsL (l : List Lab) : List (List SV) := (l.zip l.tail).map fun p => encLab2 p.1 p.2
theorem pairsL_len (l : List Lab) : (pairsL l).length = l.length - 1 := by simp [pairsL]
theorem pairsL_at {l : List Lab} {i : Nat} {a b : Lab} (ha : l[i]? = some a) (hb : l[i + 1]? = some b) : ((pairsL l).map dens)[i]? = some (dens (encLab2 a b)) := by
  have : (l.zip l.tail)[i]? = some (a, b) := by rw [List.getElem?_zip_eq_some]; simp [ha, hb]
  simp [pairsL, this]
theorem pairsL_inv {l : List Lab} {i : Nat} {v : List SV} (h : (pairsL l)[i]? = some v) : ∃ a b, l[i]? = some a ∧ l[i + 1]? = some b ∧ v = encLab2 a b := by
  simp only [pairsL, List.getElem?_map, Option.map_eq_some_iff] at h
  obtain ⟨⟨a, b⟩, h1, rfl⟩ := h
  rw [List.getElem?_zip_eq_some] at h1
  exact ⟨a, b, h1.1, by simpa using h1.2, rfl⟩
theorem risesL_1 (l : List Lab) : risesL (l.take 1) = true := by
  match l with
  | [] => rfl
  | [x] => rfl
  | x :: y :: l => rfl
theorem risesL_snoc {l : List Lab} {i : Nat} {a b : Lab} (ha : l[i]? = some a) (hb : l[i + 1]? = some b) : risesL (l.take (i + 2)) = (risesL (l.take (i + 1)) && Op.bytesLess a.name b.name) := by
  induction i generalizing l with
  | zero =>
    match l with
    | [] => simp at ha
    | [x] => simp at hb
    | x :: y :: l => simp at ha hb; subst ha hb; simp [risesL]
  | succ i ih =>
    match l with
    | [] => simp at ha
    | [x] => simp at ha
    | x :: y :: l =>
      have h1 := ih (l := y :: l) (by simpa using ha) (by simpa using hb)
      simp only [List.take_succ_cons] at h1 ⊢
      rw [risesL, risesL, h1, Bool.and_assoc]
theorem risesL_take {l : List Lab} (n : Nat) (h : risesL (l.take n) = false) : risesL l = false := by
  induction l generalizing n with
  | nil => simp [risesL] at h
  | cons x l ih =>
    match n, l with
    | 0, _ => simp [risesL] at h
    | 1, l => rw [List.take_succ_cons, List.take_zero] at h; cases h
    | n + 2, [] => simp [risesL] at h
    | n + 2, y :: l =>
      rw [List.take_succ_cons, List.take_succ_cons, risesL] at h
      rw [risesL]
      rcases Bool.and_eq_false_iff.1 h with h1 | h1
      · rw [h1]; rfl
      · rw [ih (n + 1) (by rw [List.take_succ_cons]; exact h1), Bool.and_false]

theorem c_lr1 (y : Lab) (h : y.name.length ≤ 1000 ∧ y.value.length ≤ 1000) : Ct Tryz.prog 96 [] [.agg (encLab y)] [] (Rv (.bool (!labC y))) := by
  refine Ct.of Tryz.func96 rfl (n := 22) rfl rfl rfl ?_
  conv => whnf
  repeat' first
    | (refine BinS.agg 5 (by kernel_rfl) ?_; conv => whnf)
    | (refine Ob.mk ⟨by kernel_rfl, by kernel_rfl⟩ ?_; conv => whnf)
    | (refine Ob.mk rfl ?_; conv => whnf)
    | (refine Nx.mk ?_; conv => whnf)
    | (refine BR.yes ?_; conv => whnf)
    | (refine BR.no ?_; conv => whnf)
    | (intro bk; conv => whnf)
    | (show CallK _ _ 97 _ _ _ _; refine CallK.rv (c_isName y.name (by omega)) (by repeat' (first | exact trivial | exact .head _ | apply List.Mem.tail | apply And.intro)) (Nx.go ?_))
    | (show CallK _ _ 98 _ _ _ _; refine CallK.rv (c_isValue y.value (by omega)) (by repeat' (first | exact trivial | exact .head _ | apply List.Mem.tail | apply And.intro)) (Nx.go ?_))
    | (show RdB _ _ _; refine RdB.mk' (by repeat (first | exact .head _ | apply List.Mem.tail)) (Nx.go ?_))
    | (refine AR.i64 (by omega) ?_; conv => whnf)
    | (refine AR.u64 (by omega) ?_; conv => whnf)
    | (refine AR.u8 (by omega) ?_; conv => whnf)
    | (refine Ob.mk (by omega) ?_; conv => whnf)
    | (refine BR.mk (fun h => ?_) (fun h => ?_) <;> (first | rw [Bool.not_eq_true'] at h | rw [Bool.not_eq_false'] at h | skip) <;> (try rw [h]) <;> (first | replace h := of_decide_eq_true h | replace h := of_decide_eq_false h | replace h := eq_of_beq h | replace h := bne_iff_ne.1 h | replace h := beq_eq_false_iff_ne.1 h | replace h := bne_eq_false_iff_eq.1 h | skip) <;> conv => whnf)
  all_goals grind [resS, labC]

theorem c_idxL (x : Sli Lab) (hs : smallL x.l) : Ct Tryz.prog 117 [] [x.sv, .fn 96 [] []] [x.f encLab 2] (Rs (fun n : Int => .int .i64 n) (fun _ => []) (fun _ => []) (fun n => (0 ≤ n) = (x.l.all labC = false))) := by
  refine Ct.len (enc := encLab) (L := x.l) (List.Mem.head _) fun hl => ?_
  refine Ct.post (Ct.of Tryz.func117 rfl (n := 19) rfl rfl rfl ?_)
  conv => whnf
  repeat' first
    | (refine Ob.mk rfl ?_; conv => whnf)
    | (refine Nx.mk ?_; conv => whnf)
    | (refine BR.yes ?_; conv => whnf)
    | (refine BR.no ?_; conv => whnf)
    | (show CallK _ _ 96 _ _ _ _; refine CallK.rv (c_lr1 xe (hs _ (List.mem_of_getElem? hxe))) (by repeat' (first | exact trivial | exact .head _ | apply List.Mem.tail | apply And.intro)) (Nx.go ?_))
    | (show SemC _ _ _ (.loop (.seq (.region 2 _ _) _)) _ _ _ _ _; refine SemC.loopC (c := (.seq (.region 2 _ _) _)) (fun i : Nat => [(8, .int .i64 i)]) (fun i => i ≤ x.l.length ∧ (x.l.take i).all labC = true) (fun i => x.l.length - i) 0 ?_; (conv => whnf); refine LoopQ.mk ?_ ⟨(by repeat (first | exact trivial | refine ⟨rfl, ?_⟩ | refine ⟨congrArg (Value.int _) (by omega), ?_⟩)), Imp.refl⟩ (fun i hi => ?_))
    | (show Exists _; refine Exists.intro (i + 1) ⟨?_, ?_, rfl, ⟨(by repeat (first | exact trivial | refine ⟨rfl, ?_⟩ | refine ⟨congrArg (Value.int _) (by omega), ?_⟩)), Imp.refl⟩⟩)
    | (show Post _ _ _ _ _; exact Rs.post (i : Int) rfl (Imp.fs (by repeat' (first | exact trivial | exact .head _ | apply List.Mem.tail | apply And.intro))) (by rw [allL_no hxe h]; simp))
    | (show Post _ _ _ _ _; exact Rs.post (-1 : Int) rfl (Imp.fs (by repeat' (first | exact trivial | exact .head _ | apply List.Mem.tail | apply And.intro))) (by have h2 := hi.2; rw [take_all (by omega)] at h2; rw [h2]; simp))
    | (refine Idx.nat ?_; conv => whnf)
    | (refine Idx.is _ rfl ?_; conv => whnf)
    | (show HasP _ _ _ _ _ _; refine HasP.mk' (by repeat (first | exact .head _ | apply List.Mem.tail)) (Nx.go ?_))
    | (show RdE _ _ _ _ _ _ _; refine RdE.s (by repeat (first | exact .head _ | apply List.Mem.tail)) (by omega) (fun xe hxe => Nx.go ?_))
    | (show RdB _ _ _; refine RdB.mk' (by repeat (first | exact .head _ | apply List.Mem.tail)) (Nx.go ?_))
    | (refine AR.i64 (by omega) ?_; conv => whnf)
    | (refine AR.u64 (by omega) ?_; conv => whnf)
    | (refine AR.u8 (by omega) ?_; conv => whnf)
    | (refine Ob.mk (by omega) ?_; conv => whnf)
    | (refine BR.mk (fun h => ?_) (fun h => ?_) <;> (first | rw [Bool.not_eq_true'] at h | rw [Bool.not_eq_false'] at h | skip) <;> (try rw [h]) <;> (first | replace h := of_decide_eq_true h | replace h := of_decide_eq_false h | replace h := eq_of_beq h | replace h := bne_iff_ne.1 h | replace h := beq_eq_false_iff_ne.1 h | replace h := bne_eq_false_iff_eq.1 h | skip) <;> conv => whnf)
  · exact ⟨Nat.zero_le _, rfl⟩
  · exact ⟨by omega, allL_step hi.2 hxe h⟩
  · omega

theorem c_cfL (x : Sli Lab) (hs : smallL x.l) : Ct Tryz.prog 99 [] [x.sv, .fn 96 [] []] [x.f encLab 2] (Rv (.bool (!x.l.all labC))) := by
  refine Ct.of Tryz.func99 rfl (n := 9) rfl rfl rfl ?_
  conv => whnf
  repeat' first
    | (refine Ob.mk rfl ?_; conv => whnf)
    | (refine Nx.mk ?_; conv => whnf)
    | (show CallK _ _ 117 _ _ _ _; refine CallK.rf (c_idxL x hs) (by repeat' (first | exact trivial | exact .head _ | apply List.Mem.tail | apply And.intro)) (fun n hn => Nx.go ?_))
    | (refine AR.i64 (by omega) ?_; conv => whnf)
    | (refine AR.u64 (by omega) ?_; conv => whnf)
    | (refine AR.u8 (by omega) ?_; conv => whnf)
    | (refine Ob.mk (by omega) ?_; conv => whnf)
  all_goals grind [resS]

theorem c_pairsL (x : Sli Lab) : Ct Tryz.prog 100 [] [x.sv] [x.f encLab 2] (Rs (fun b : Nat => .fn 118 [] [.raw (.pointer (some ⟨b, 0, none⟩))]) (fun _ => []) (fun b => [blkF b [x.sv] 32, x.f encLab 2]) (fun _ => True)) := by
  refine Ct.post (Ct.of Tryz.func100 rfl (n := 4) rfl rfl rfl ?_)
  conv => whnf
  repeat' first
    | (refine Ob.mk rfl ?_; conv => whnf)
    | (refine Nx.mk ?_; conv => whnf)
    | (intro bk; conv => whnf)
    | (show Post _ _ _ _ _; exact Rs.post bk rfl ((Imp.pubCells 0 rfl).trans (Imp.fs (by repeat' (first | exact trivial | exact .head _ | apply List.Mem.tail | apply And.intro)))) trivial)
    | (refine Ob.mk (by omega) ?_; conv => whnf)

theorem i_pairsL (x : Sli Lab) (b : Nat) (hl : x.l.length ≤ 9223372036854775807) : It Tryz.prog 118 [] [.raw (.pointer (some ⟨b, 0, none⟩))] [blkF b [x.sv] 32, x.f encLab 2] ((pairsL x.l).map dens) (fun _ _ => True) := by
  refine It.of Tryz.func118 rfl (n := 22) rfl rfl rfl (fun lp => ?_)
  conv => whnf
  repeat' first
    | (refine Ob.mk rfl ?_; conv => whnf)
    | (refine Nx.mk ?_; conv => whnf)
    | (refine BR.yes ?_; conv => whnf)
    | (refine BR.no ?_; conv => whnf)
    | (show SemC _ _ _ (.loop (.seq (.seq (.region 1 _ _) _) _)) _ _ _ _ _; refine SemC.loopB (c := (.seq (.seq (.region 1 _ _) _) _)) (fun j : Nat => [(3, .int .i64 (j + 1))]) (fun j => [(0, .seq lp ((pairsL x.l).map dens) (some j))]) (fun j => j ≤ x.l.length - 1) (fun j => x.l.length - j) 0 ?_; (conv => whnf); refine LoopQ.mk ?_ ⟨(by repeat (first | exact trivial | refine ⟨rfl, ?_⟩ | refine ⟨congrArg (Value.int _) (by omega), ?_⟩)), Imp.refl⟩ (fun j hi => ?_))
    | (show Exists _; refine Exists.intro (j + 1) ⟨?_, ?_, rfl, ⟨(by repeat (first | exact trivial | refine ⟨rfl, ?_⟩ | refine ⟨congrArg (Value.int _) (by omega), ?_⟩)), Imp.refl⟩⟩)
    | (refine Idx.is j (by omega) ?_; conv => whnf)
    | (refine Idx.is (j + 1) (by omega) ?_; conv => whnf)
    | (refine Ob.mk ⟨rfl, ?_⟩ ⟨Nx.go ?_, Nx.go ?_⟩)
    | (exact ⟨_, _, rfl, Or.inl rfl, trivial⟩)
    | (refine ⟨_, _, rfl, Or.inr (congrArg some ?_), trivial⟩)
    | (refine SemC.draw 3 [] [.t 0, .t 1, .t 2, .t 3, .t 4, .t 5, .t 6, .t 7, .t 8, .t 9, .l 10, .t 11] (by kernel_rfl) (by kernel_rfl) ?_; conv => whnf)
    | (refine Idx.nat ?_; conv => whnf)
    | (refine Idx.is _ rfl ?_; conv => whnf)
    | (show HasP _ _ _ _ _ _; refine HasP.mk' (by repeat (first | exact .head _ | apply List.Mem.tail)) (Nx.go ?_))
    | (show RdE _ _ _ _ _ _ _; refine RdE.s (by repeat (first | exact .head _ | apply List.Mem.tail)) (by omega) (fun xe hxe => Nx.go ?_))
    | (show RdB _ _ _; refine RdB.mk' (by repeat (first | exact .head _ | apply List.Mem.tail)) (Nx.go ?_))
    | (refine AR.i64 (by omega) ?_; conv => whnf)
    | (refine AR.u64 (by omega) ?_; conv => whnf)
    | (refine AR.u8 (by omega) ?_; conv => whnf)
    | (refine Ob.mk (by omega) ?_; conv => whnf)
    | (refine BR.mk (fun h => ?_) (fun h => ?_) <;> (first | rw [Bool.not_eq_true'] at h | rw [Bool.not_eq_false'] at h | skip) <;> (try rw [h]) <;> (first | replace h := of_decide_eq_true h | replace h := of_decide_eq_false h | replace h := eq_of_beq h | replace h := bne_iff_ne.1 h | replace h := beq_eq_false_iff_ne.1 h | replace h := bne_eq_false_iff_eq.1 h | skip) <;> conv => whnf)
  all_goals first | exact pairsL_at (by assumption) (by assumption) | grind [pairsL_len]

theorem c_labR (z : Sli Lab) (hs : smallL z.l) : Ct Tryz.prog 72 [] [z.sv] [z.f encLab 2] (Rv (.bool (labR z.l))) := by
  refine Ct.len (enc := encLab) (L := z.l) (List.Mem.head _) fun hl => ?_
  refine Ct.of Tryz.func72 rfl (n := 31) rfl rfl rfl ?_
  conv => whnf
  repeat' first
    | (refine Ob.mk rfl ?_; conv => whnf)
    | (refine Nx.mk ?_; conv => whnf)
    | (refine BR.yes ?_; conv => whnf)
    | (refine BR.no ?_; conv => whnf)
    | (intro bk; conv => whnf)
    | (show CallK _ _ 99 _ _ _ _; refine CallK.rv (c_cfL z hs) (by repeat' (first | exact trivial | exact .head _ | apply List.Mem.tail | apply And.intro)) (Nx.go ?_))
    | (show CallK _ _ 100 _ _ _ _; refine CallK.rf (c_pairsL z) (by repeat' (first | exact trivial | exact .head _ | apply List.Mem.tail | apply And.intro)) (fun b hb => Nx.go ?_))
    | (show SemC _ _ _ (.rangeFunc _ _ (.seq (.region 4 _ _) _) _) _ _ _ _ _; refine SemC.rangeC (σ := Bool) (fun lb y => setCells lb 0 [.bool y]) (fun n y => y = (decide (0 < z.l.length) && decide (z.l.length ≤ 6) && z.l.all labC && risesL (z.l.take (n + 1)))) (fun c y => c = .exit 0 ∧ y = false ∧ risesL z.l = false) (pairsL z.l) 1 (i_pairsL z b hl) (_) ?_ (fun _ => rfl) (fun D r => Imp.to 3 rfl (by repeat' (first | exact trivial | exact .head _ | apply List.Mem.tail | apply And.intro))) (by repeat' (first | exact trivial | exact .head _ | apply List.Mem.tail | apply And.intro)) rfl (fun D rc nr x a hx ha => ?_) (fun D x o hx => ?_) (fun D c x o hx => ?_))
    | (refine Nx1.mk ?_; obtain ⟨u, v, hu, hv, rfl⟩ := pairsL_inv ha; (conv => whnf))
    | (refine Nx2.mk ?_; obtain ⟨rfl, rfl, hs2⟩ := hx; (conv => whnf))
    | (show EndS _ _ _ _ _ _ _; refine EndS.mark 1 rfl rfl (fun o => Nx.go ?_))
    | (refine Ob.mk ⟨rfl, rfl⟩ ?_; conv => whnf)
    | (show Exists _; refine Exists.intro (x) ⟨?_, Imp.to 3 rfl (by repeat' (first | exact trivial | exact .head _ | apply List.Mem.tail | apply And.intro))⟩)
    | (show Exists _; refine Exists.intro (false) ⟨?_, Imp.to 3 rfl (by repeat' (first | exact trivial | exact .head _ | apply List.Mem.tail | apply And.intro))⟩)
    | (show RdB _ _ _; refine RdB.mk' (by repeat (first | exact .head _ | apply List.Mem.tail)) (Nx.go ?_))
    | (refine AR.i64 (by omega) ?_; conv => whnf)
    | (refine AR.u64 (by omega) ?_; conv => whnf)
    | (refine AR.u8 (by omega) ?_; conv => whnf)
    | (refine Ob.mk (by omega) ?_; conv => whnf)
    | (refine BR.mk (fun h => ?_) (fun h => ?_) <;> (first | rw [Bool.not_eq_true'] at h | rw [Bool.not_eq_false'] at h | skip) <;> (try rw [h]) <;> (first | replace h := of_decide_eq_true h | replace h := of_decide_eq_false h | replace h := eq_of_beq h | replace h := bne_iff_ne.1 h | replace h := beq_eq_false_iff_ne.1 h | replace h := bne_eq_false_iff_eq.1 h | skip) <;> conv => whnf)
  all_goals (try (have h9 := risesL_snoc hu hv; first | exact ⟨rfl, rfl, risesL_take (nr + 2) (by rw [h9, h, Bool.and_false])⟩ | (show x = _; rw [hx, h9, h, Bool.and_true]; done)))
  all_goals (try (simp only [resS, SV.bool.injEq]; rw [hx, pairsL_len, take_all (by omega)]; rfl))
  all_goals (try (rw [labR, hs2, Bool.and_false]; rfl))
  all_goals (rw [Nat.zero_add, risesL_1, Bool.and_true])
  · rw [decide_eq_true (p := 0 < z.l.length) (by omega), decide_eq_true (p := z.l.length ≤ 6) (by omega), Bool.not_not]; rfl
  · rw [decide_eq_false (p := z.l.length ≤ 6) (by omega), Bool.and_false]; rfl
  · rw [decide_eq_false (p := 0 < z.l.length) (by omega)]; rfl

def cutL (x : Lab) : Lab := ⟨x.name.take (min x.name.length 20), x.value.take (min x.value.length 120)⟩
def few4 (l : List Lab) : List Lab := (l.take 10).map cutL
theorem few4_small (l : List Lab) : smallL (few4 l) := by
  intro y hy
  obtain ⟨x, _, rfl⟩ := List.mem_map.1 hy
  exact ⟨Nat.le_trans (List.length_take_le _ _) (by omega), Nat.le_trans (List.length_take_le _ _) (by omega)⟩
theorem map_snoc {α β : Type} {f : α → β} {l : List α} {i : Nat} {x : α} (h : l[i]? = some x) : (l.take (i + 1)).map f = (l.take i).map f ++ [f x] := by rw [take_snoc h, List.map_append]; rfl
theorem few4_end {l L : List Lab} {i : Nat} (h : L = (l.take i).map cutL) (h1 : i ≤ l.length) (h2 : i ≤ 10) (h3 : i = l.length ∨ i = 10) : L = few4 l := by
  rw [h, few4]
  rcases h3 with h3 | h3
  · rw [h3, List.take_length, take_all (by omega)]
  · rw [h3]
structure RowL where
  i : Nat
  b : Nat
  p : Option Addr
  n : Nat
  c : Nat
  l : List Lab

theorem c_few04 (x : Sli Lab) : Ct Tryz.prog 42 [] [x.sv] [x.f encLab 2] (Rs (fun y : Sli Lab => y.sv) (fun _ => []) (fun y => [y.f encLab 2]) (fun y => y.l = few4 x.l)) := by
  refine Ct.len (enc := encLab) (L := x.l) (List.Mem.head _) fun hl => ?_
  refine Ct.post (Ct.of Tryz.func42 rfl (n := 46) rfl rfl rfl ?_)
  conv => whnf
  repeat' first
    | (show SemO _ _ (.buildSlice _ _ #[(0, .tmp 42)]) _ _ _ _ _; refine SemO.lit ?_; (conv => whnf); show BsV _ _ _ _ _; refine BsV.s [cutL xe] (by repeat (first | exact .nil | refine .cons (by first | rfl | exact encB_of (by omega) | exact encU_U (by omega)) ?_)) (fun xo _ => okLab xo) (fun ys hys => Nx.go ?_))
    | (show SemO _ _ (.call ⟨.builtin .append, _, _⟩) _ _ _ _ _; refine SemO.appendVec ?_; (conv => whnf); refine Ob.mk ⟨rfl, rfl, rfl, rfl, rfl⟩ ?_)
    | (show AppV _ _ _ _ _ _ _ _ _ _ _ _ _ _; refine ⟨rfl, _, .fact (by repeat (first | exact .head _ | apply List.Mem.tail)), app_le (N := 1048576) ?_ (of_decide_eq_true (by kernel_rfl)), ?_, fun bv pv cv hcv => Nx.go ?_⟩)
    | (show RdE _ _ _ _ _ _ _; refine RdE.k (by repeat (first | exact .head _ | apply List.Mem.tail)) hxe (Nx.go ?_))
    | (refine Idx.is (min xe.name.length 20) (by omega) ?_; conv => whnf)
    | (refine Idx.is (min xe.value.length 120) (by omega) ?_; conv => whnf)
    | (refine Ob.mk rfl ?_; conv => whnf)
    | (refine Nx.mk ?_; conv => whnf)
    | (refine BR.yes ?_; conv => whnf)
    | (refine BR.no ?_; conv => whnf)
    | (intro bk; conv => whnf)
    | (show SemC _ _ _ (.loop (.seq (.seq (.region 3 _ _) _) _)) _ _ _ _ _; refine SemC.loopB (c := (.seq (.seq (.region 3 _ _) _) _)) (fun j : RowL => [(3, .vec 0 j.p j.n j.c), (4, .int .i64 j.i)]) (fun j => [(j.b, .vec encLab 2 75 j.p j.n j.c j.l)]) (fun j => j.i ≤ x.l.length ∧ j.i ≤ 10 ∧ j.n = j.l.length ∧ j.l = (x.l.take j.i).map cutL) (fun j => 10 - j.i) ⟨0, 0, none, 0, 0, []⟩ ?_; (conv => whnf); refine LoopQ.mk ?_ ⟨(by repeat (first | exact trivial | refine ⟨rfl, ?_⟩ | refine ⟨congrArg (Value.int _) (by omega), ?_⟩)), (Imp.nilVec encLab 2 75)⟩ (fun j hi => ?_))
    | (show Exists _; refine Exists.intro (⟨j.i + 1, bv, pv, j.n + ys.l.length, cv, j.l ++ ys.l⟩) ⟨?_, ?_, rfl, ⟨(by repeat (first | exact trivial | refine ⟨rfl, ?_⟩ | refine ⟨congrArg (Value.int _) (by omega), ?_⟩)), Imp.to 1 rfl (by repeat' (first | exact trivial | exact .head _ | apply List.Mem.tail | apply And.intro))⟩⟩)
    | (show Post _ _ _ _ _; have hx9 : j.l = few4 x.l := few4_end hi.2.2.2 hi.1 hi.2.1 (by omega); exact Rs.post ⟨j.l, j.p, j.c⟩ (by rw [hi.2.2.1]; rfl) ((Imp.pubS 0 rfl hi.2.2.1.symm).trans (Imp.fs (by repeat' (first | exact trivial | exact .head _ | apply List.Mem.tail | apply And.intro)))) hx9)
    | (refine SemC.draw 5 [] [.t 0, .t 1, .t 2, .t 3, .t 4, .t 5, .t 6, .t 7, .t 8, .t 9, .t 10, .t 11, .t 12, .t 13, .t 14, .t 15, .t 16, .t 17, .t 18, .t 19, .t 20, .t 21, .t 22, .t 23, .t 24, .t 25, .t 26, .t 27, .s 28, .l 29, .t 30] (by kernel_rfl) (by kernel_rfl) ?_; conv => whnf)
    | (refine Idx.nat ?_; conv => whnf)
    | (refine Idx.is _ rfl ?_; conv => whnf)
    | (show HasP _ _ _ _ _ _; refine HasP.mk' (by repeat (first | exact .head _ | apply List.Mem.tail)) (Nx.go ?_))
    | (show RdE _ _ _ _ _ _ _; refine RdE.s (by repeat (first | exact .head _ | apply List.Mem.tail)) (by omega) (fun xe hxe => Nx.go ?_))
    | (show RdB _ _ _; refine RdB.mk' (by repeat (first | exact .head _ | apply List.Mem.tail)) (Nx.go ?_))
    | (show SlW _ _ _ _ _ _ _ _ _; refine SlW.s (by repeat (first | exact .head _ | apply List.Mem.tail)) (by omega) (fun ys hys hcs => Nx.go ?_))
    | (refine AR.i64 (by omega) ?_; conv => whnf)
    | (refine AR.u64 (by omega) ?_; conv => whnf)
    | (refine AR.u8 (by omega) ?_; conv => whnf)
    | (refine Ob.mk (by omega) ?_; conv => whnf)
    | (refine BR.mk (fun h => ?_) (fun h => ?_) <;> (first | rw [Bool.not_eq_true'] at h | rw [Bool.not_eq_false'] at h | skip) <;> (try rw [h]) <;> (first | replace h := of_decide_eq_true h | replace h := of_decide_eq_false h | replace h := eq_of_beq h | replace h := bne_iff_ne.1 h | replace h := beq_eq_false_iff_ne.1 h | replace h := bne_eq_false_iff_eq.1 h | skip) <;> conv => whnf)
  · exact ⟨Nat.zero_le _, Nat.zero_le _, rfl, rfl⟩
  all_goals (have hn : j.n ≤ 10 := by rw [hi.2.2.1, hi.2.2.2, List.length_map, List.length_take]; omega)
  · show j.n + _ ≤ _; rw [hys, List.length_singleton]; omega
  · show j.n + _ ≤ _; rw [hys, List.length_singleton]; omega
  · refine ⟨by show j.i + 1 ≤ _; omega, by show j.i + 1 ≤ _; omega, by show j.n + _ = (j.l ++ _).length; rw [List.length_append, hi.2.2.1], ?_⟩
    show j.l ++ ys.l = _; rw [hys, hi.2.2.2, map_snoc hxe]
  · show 10 - (j.i + 1) < 10 - j.i; omega
end Go.Proofs.YtfgnkadbpjiaiaaGreatDoor

/- clock: K6 -/
namespace Go.Proofs.YtfgnkadbpjiaiaaGreatDoor
open Go.Proofs.YtfgnkadbpjiaiaaGreatDoor.W
set_option maxRecDepth 100000
set_option linter.unusedVariables false
/-- how two texts stand -/
def cmpS (a b : List UInt8) : Int := if Op.bytesLess a b = true then -1 else if (Op.bytesLess a b || decide (a = b)) = true then 0 else 1
def orI (a b : Int) : Int := if a = 0 then b else a
def cmpL (a b : Lab) : Int := orI (cmpS a.name b.name) (cmpS a.value b.value)
def cmpLs : List Lab → List Lab → Int
  | [], [] => 0
  | [], _ :: _ => -1
  | _ :: _, [] => 1
  | a :: x, b :: y => if cmpL a b = 0 then cmpLs x y else cmpL a b
def lessL (a b : List Lab) : Bool := decide (cmpLs a b < 0)
theorem two_at {l : List Int} {a b : Int} {i : Nat} {x : Int} (hl : l = [a, b]) (h : l[i]? = some x) : (i = 0 ∧ x = a) ∨ (i = 1 ∧ x = b) := by
  subst hl
  match i with
  | 0 => cases h; exact .inl ⟨rfl, rfl⟩
  | 1 => cases h; exact .inr ⟨rfl, rfl⟩
  | i + 2 => simp at h
theorem cmpLs_step {x y : List Lab} {i : Nat} {a b : Lab} (hx : x[i]? = some a) (hy : y[i]? = some b) : cmpLs (x.drop i) (y.drop i) = if cmpL a b = 0 then cmpLs (x.drop (i + 1)) (y.drop (i + 1)) else cmpL a b := by
  rw [drop_cons hx, drop_cons hy, cmpLs]
theorem cmpLs_long {x y : List Lab} {i : Nat} (h1 : i < x.length) (h2 : y.length ≤ i) : cmpLs (x.drop i) (y.drop i) = 1 := by
  rw [drop_all h2, List.drop_eq_getElem_cons h1, cmpLs]
theorem cmpLs_short {x y : List Lab} {i : Nat} (h1 : x.length ≤ i) (h2 : i < y.length) : cmpLs (x.drop i) (y.drop i) = -1 := by
  rw [drop_all h1, List.drop_eq_getElem_cons h2, cmpLs]
theorem cmpLs_end {x y : List Lab} {i : Nat} (h1 : x.length ≤ i) (h2 : y.length ≤ i) : cmpLs (x.drop i) (y.drop i) = 0 := by
  rw [drop_all h1, drop_all h2, cmpLs]
def encI (n : Int) : List SV := [.int .i64 n]
theorem okI (n : Int) : okE encI 1 n := ⟨rfl, rfl⟩

theorem c_nan (a : List UInt8) : Ct Tryz.prog 101 [] [.str a] [] (Rv (.bool false)) := by
  refine Ct.of Tryz.func101 rfl (n := 6) rfl rfl rfl ?_
  conv => whnf
  repeat' first
    | (refine Ob.mk rfl ?_; conv => whnf)
    | (refine Nx.mk ?_; conv => whnf)
    | (refine AR.i64 (by omega) ?_; conv => whnf)
    | (refine AR.u64 (by omega) ?_; conv => whnf)
    | (refine AR.u8 (by omega) ?_; conv => whnf)
    | (refine Ob.mk (by omega) ?_; conv => whnf)
  all_goals simp [resS]

theorem c_cmpS (a b : List UInt8) : Ct Tryz.prog 78 [] [.str a, .str b] [] (Rv (.int .i64 (cmpS a b))) := by
  refine Ct.of Tryz.func78 rfl (n := 20) rfl rfl rfl ?_
  conv => whnf
  repeat' first
    | (refine Ob.mk rfl ?_; conv => whnf)
    | (refine Nx.mk ?_; conv => whnf)
    | (refine BR.yes ?_; conv => whnf)
    | (refine BR.no ?_; conv => whnf)
    | (show CallK _ _ 101 _ _ _ _; refine CallK.rv (c_nan _) (by repeat' (first | exact trivial | exact .head _ | apply List.Mem.tail | apply And.intro)) (Nx.go ?_))
    | (refine AR.i64 (by omega) ?_; conv => whnf)
    | (refine AR.u64 (by omega) ?_; conv => whnf)
    | (refine AR.u8 (by omega) ?_; conv => whnf)
    | (refine Ob.mk (by omega) ?_; conv => whnf)
    | (refine BR.mk (fun h => ?_) (fun h => ?_) <;> (first | rw [Bool.not_eq_true'] at h | rw [Bool.not_eq_false'] at h | skip) <;> (try rw [h]) <;> (first | replace h := of_decide_eq_true h | replace h := of_decide_eq_false h | replace h := eq_of_beq h | replace h := bne_iff_ne.1 h | replace h := beq_eq_false_iff_ne.1 h | replace h := bne_eq_false_iff_eq.1 h | skip) <;> conv => whnf)
  all_goals simp_all [resS, cmpS]

theorem c_or (x : Sli Int) (a b : Int) (hx : x.l = [a, b]) : Ct Tryz.prog 77 [] [x.sv] [x.f encI 1] (Rv (.int .i64 (orI a b))) := by
  have hl : x.l.length = 2 := by rw [hx]; rfl
  refine Ct.of Tryz.func77 rfl (n := 18) rfl rfl rfl ?_
  conv => whnf
  repeat' first
    | (refine Ob.mk rfl ?_; conv => whnf)
    | (refine Nx.mk ?_; conv => whnf)
    | (refine BR.yes ?_; conv => whnf)
    | (refine BR.no ?_; conv => whnf)
    | (show SemC _ _ _ (.loop (.seq (.region 3 _ _) _)) _ _ _ _ _; refine SemC.loopC (c := (.seq (.region 3 _ _) _)) (fun i : Nat => [(8, .int .i64 i)]) (fun i => i ≤ 2 ∧ (0 < i → a = 0) ∧ (1 < i → b = 0)) (fun i => 2 - i) 0 ?_; (conv => whnf); refine LoopQ.mk ?_ ⟨(by repeat (first | exact trivial | refine ⟨rfl, ?_⟩ | refine ⟨congrArg (Value.int _) (by omega), ?_⟩)), Imp.refl⟩ (fun i hi => ?_))
    | (show Exists _; refine Exists.intro (i + 1) ⟨?_, ?_, rfl, ⟨(by repeat (first | exact trivial | refine ⟨rfl, ?_⟩ | refine ⟨congrArg (Value.int _) (by omega), ?_⟩)), Imp.refl⟩⟩)
    | (refine Idx.nat ?_; conv => whnf)
    | (refine Idx.is _ rfl ?_; conv => whnf)
    | (show HasP _ _ _ _ _ _; refine HasP.mk' (by repeat (first | exact .head _ | apply List.Mem.tail)) (Nx.go ?_))
    | (show RdE _ _ _ _ _ _ _; refine RdE.s (by repeat (first | exact .head _ | apply List.Mem.tail)) (by omega) (fun xe hxe => Nx.go ?_))
    | (show RdB _ _ _; refine RdB.mk' (by repeat (first | exact .head _ | apply List.Mem.tail)) (Nx.go ?_))
    | (refine AR.i64 (by omega) ?_; conv => whnf)
    | (refine AR.u64 (by omega) ?_; conv => whnf)
    | (refine AR.u8 (by omega) ?_; conv => whnf)
    | (refine Ob.mk (by omega) ?_; conv => whnf)
    | (refine BR.mk (fun h => ?_) (fun h => ?_) <;> (first | rw [Bool.not_eq_true'] at h | rw [Bool.not_eq_false'] at h | skip) <;> (try rw [h]) <;> (first | replace h := of_decide_eq_true h | replace h := of_decide_eq_false h | replace h := eq_of_beq h | replace h := bne_iff_ne.1 h | replace h := beq_eq_false_iff_ne.1 h | replace h := bne_eq_false_iff_eq.1 h | skip) <;> conv => whnf)
  · exact ⟨by omega, fun h => absurd h (by omega), fun h => absurd h (by omega)⟩
  all_goals (try (have h9 := two_at hx hxe))
  · simp only [resS, orI]; congr 1; split <;> omega
  · omega
  · omega
  · simp only [resS, orI]; congr 1; split <;> omega

theorem c_less1 (a b : Lab) : Ct Tryz.prog 76 [] [.agg (encLab a), .agg (encLab b)] [] (Rv (.int .i64 (cmpL a b))) := by
  refine Ct.of Tryz.func76 rfl (n := 17) rfl rfl rfl ?_
  conv => whnf
  repeat' first
    | (show SemO _ _ (.buildSlice _ _ #[(0, .tmp 9), (1, .tmp 14)]) _ _ _ _ _; refine SemO.lit ?_; (conv => whnf); show BsV _ _ _ _ _; refine BsV.s [cmpS a.name b.name, cmpS a.value b.value] (by repeat (first | exact .nil | refine .cons (by first | rfl | exact encB_of (by omega) | exact encU_U (by omega)) ?_)) (fun xo _ => okI xo) (fun ys hys => Nx.go ?_))
    | (refine Ob.mk rfl ?_; conv => whnf)
    | (refine Nx.mk ?_; conv => whnf)
    | (intro bk; conv => whnf)
    | (show CallK _ _ 78 _ _ _ _; refine CallK.rv (c_cmpS _ _) (by repeat' (first | exact trivial | exact .head _ | apply List.Mem.tail | apply And.intro)) (Nx.go ?_))
    | (show CallK _ _ 77 _ _ _ _; refine CallK.rv (c_or ys _ _ hys) (by repeat' (first | exact trivial | exact .head _ | apply List.Mem.tail | apply And.intro)) (Nx.go ?_))
    | (refine SemC.draw 1 [] [.t 0, .t 1, .t 2, .t 3, .t 5, .t 6, .t 7, .t 8, .s 4, .l 9, .l 10, .l 11, .t 12] (by kernel_rfl) (by kernel_rfl) ?_; conv => whnf)
    | (show RdB _ _ _; refine RdB.mk' (by repeat (first | exact .head _ | apply List.Mem.tail)) (Nx.go ?_))
    | (refine Ob.mk (by omega) ?_; conv => whnf)
  rfl

theorem c_cmpF (x y : Sli Lab) : Ct Tryz.prog 75 [] [x.sv, y.sv, .fn 76 [] []] [x.f encLab 2, y.f encLab 2] (Rv (.int .i64 (cmpLs x.l y.l))) := by
  refine Ct.len (enc := encLab) (L := x.l) (List.Mem.head _) fun hl => ?_
  refine Ct.of Tryz.func75 rfl (n := 39) rfl rfl rfl ?_
  conv => whnf
  repeat' first
    | (show RdE _ y.p _ _ _ _ _; refine RdE.s (x := y) (by repeat (first | exact .head _ | apply List.Mem.tail)) (by omega) (fun ye hye => Nx.go ?_))
    | (refine Ob.mk rfl ?_; conv => whnf)
    | (refine Nx.mk ?_; conv => whnf)
    | (refine BR.yes ?_; conv => whnf)
    | (refine BR.no ?_; conv => whnf)
    | (intro bk; conv => whnf)
    | (show CallK _ _ 76 _ _ _ _; refine CallK.rv (c_less1 xe ye) (by repeat' (first | exact trivial | exact .head _ | apply List.Mem.tail | apply And.intro)) (Nx.go ?_))
    | (show SemC _ _ _ (.loop (.seq (.region 2 _ _) _)) _ _ _ _ _; refine SemC.loopB (c := (.seq (.region 2 _ _) _)) (fun i : Nat => [(13, .int .i64 i)]) (fun i => []) (fun i => i ≤ x.l.length ∧ i ≤ y.l.length ∧ cmpLs x.l y.l = cmpLs (x.l.drop i) (y.l.drop i)) (fun i => x.l.length - i) 0 ?_; (conv => whnf); refine LoopQ.mk ?_ ⟨(by repeat (first | exact trivial | refine ⟨rfl, ?_⟩ | refine ⟨congrArg (Value.int _) (by omega), ?_⟩)), Imp.refl⟩ (fun i hi => ?_))
    | (show Exists _; refine Exists.intro (i + 1) ⟨?_, ?_, rfl, ⟨(by repeat (first | exact trivial | refine ⟨rfl, ?_⟩ | refine ⟨congrArg (Value.int _) (by omega), ?_⟩)), Imp.to 0 rfl (by repeat' (first | exact trivial | exact .head _ | apply List.Mem.tail | apply And.intro))⟩⟩)
    | (refine Idx.nat ?_; conv => whnf)
    | (refine Idx.is _ rfl ?_; conv => whnf)
    | (show HasP _ _ _ _ _ _; refine HasP.mk' (by repeat (first | exact .head _ | apply List.Mem.tail)) (Nx.go ?_))
    | (show RdE _ _ _ _ _ _ _; refine RdE.s (by repeat (first | exact .head _ | apply List.Mem.tail)) (by omega) (fun xe hxe => Nx.go ?_))
    | (show RdB _ _ _; refine RdB.mk' (by repeat (first | exact .head _ | apply List.Mem.tail)) (Nx.go ?_))
    | (refine AR.i64 (by omega) ?_; conv => whnf)
    | (refine AR.u64 (by omega) ?_; conv => whnf)
    | (refine AR.u8 (by omega) ?_; conv => whnf)
    | (refine Ob.mk (by omega) ?_; conv => whnf)
    | (refine BR.mk (fun h => ?_) (fun h => ?_) <;> (first | rw [Bool.not_eq_true'] at h | rw [Bool.not_eq_false'] at h | skip) <;> (try rw [h]) <;> (first | replace h := of_decide_eq_true h | replace h := of_decide_eq_false h | replace h := eq_of_beq h | replace h := bne_iff_ne.1 h | replace h := beq_eq_false_iff_ne.1 h | replace h := bne_eq_false_iff_eq.1 h | skip) <;> conv => whnf)
  · exact ⟨Nat.zero_le _, Nat.zero_le _, rfl⟩
  · rw [hi.2.2, cmpLs_long (by omega) (by omega)]; rfl
  · rw [hi.2.2, cmpLs_step hxe hye, if_neg h]; rfl
  · exact ⟨by omega, by omega, by rw [hi.2.2, cmpLs_step hxe hye, if_pos h]⟩
  · omega
  · rw [hi.2.2, cmpLs_short (by omega) (by omega)]; rfl
  · rw [hi.2.2, cmpLs_end (by omega) (by omega)]; rfl

theorem c_less (x y : Sli Lab) : Ct Tryz.prog 54 [] [x.sv, y.sv] [x.f encLab 2, y.f encLab 2] (Rv (.bool (lessL x.l y.l))) := by
  refine Ct.of Tryz.func54 rfl (n := 9) rfl rfl rfl ?_
  conv => whnf
  repeat' first
    | (refine Ob.mk rfl ?_; conv => whnf)
    | (refine Nx.mk ?_; conv => whnf)
    | (show CallK _ _ 75 _ _ _ _; refine CallK.rv (c_cmpF x y) (by repeat' (first | exact trivial | exact .head _ | apply List.Mem.tail | apply And.intro)) (Nx.go ?_))
    | (refine AR.i64 (by omega) ?_; conv => whnf)
    | (refine AR.u64 (by omega) ?_; conv => whnf)
    | (refine AR.u8 (by omega) ?_; conv => whnf)
    | (refine Ob.mk (by omega) ?_; conv => whnf)
  rfl
end Go.Proofs.YtfgnkadbpjiaiaaGreatDoor

/- clock: K7 -/
namespace Go.Proofs.YtfgnkadbpjiaiaaGreatDoor
open Go.Proofs.YtfgnkadbpjiaiaaGreatDoor.W
set_option maxRecDepth 100000
set_option linter.unusedVariables false
/-- a series in memory, and what it holds -/
structure SerV where
  L : Sli Lab
  S : SkV
  seen : UInt64
structure Ser where
  l : List Lab
  s : Sk
  seen : UInt64
  deriving DecidableEq
def encSer (x : SerV) : List SV := [x.L.sv, .int .i64 x.S.kind, .int .i64 x.S.level, x.S.e.sv, .int .i64 x.S.bits, .str x.S.regs, .int .i64 x.S.rows, .int .i64 x.S.cols, x.S.c.sv, .int .i64 x.S.fine, x.S.g.sv, .int .u64 x.seen.toNat]
theorem okSer (x : SerV) : okE encSer 12 x := ⟨rfl, rfl⟩
def SerV.ser (x : SerV) : Ser := ⟨x.L.l, x.S.sk, x.seen⟩
def SerV.fs (x : SerV) : Facts := x.L.f encLab 2 :: x.S.fs
/-- all that their slices hold -/
def allF (l : List SerV) : Fact := ⟨fun A w => ∀ y ∈ l, Hold y.fs A w, fun _ _ _ _ t h y hy => (h y hy).kp t⟩
theorem all_at {l : List SerV} {i : Nat} {x : SerV} (h : l[i]? = some x) (A : Nat → Prop) (w : World) (hh : Hold [allF l] A w) : Hold x.fs A w := hh _ (List.Mem.head _) x (List.mem_of_getElem? h)
theorem Imp.all0 {P : Program} {lb : LBs} {Φ : Facts} : Imp P lb Φ lb (allF [] :: Φ) := Imp.fact fun _ _ _ y hy => nomatch hy
theorem Imp.all1 {P : Program} {lb : LBs} {Φ : Facts} {l l2 : List SerV} {y : SerV} (hl : l2 = [y]) (hm : allF l ∈ Φ) (hs : SubK y.fs Φ) : Imp P lb Φ lb (allF (l ++ l2) :: Φ) := Imp.fact fun A w hh z hz => by
  subst hl
  rcases List.mem_append.1 hz with hz | hz
  · exact hh _ hm z hz
  · simp only [List.mem_singleton] at hz
    subst hz
    exact fun F hF => hh F (hs.ok F hF)
/-- its parts cut -/
def oneS (x : Ser) : Ser := ⟨few4 x.l, x.s.few, x.seen⟩
def few12 (l : List Ser) : List Ser := (l.take 22).map oneS
def Tab (x : Sli SerV) : List Ser := x.l.map SerV.ser
structure RowS where
  i : Nat
  b : Nat
  p : Option Addr
  n : Nat
  c : Nat
  l : List SerV
theorem few12_step {x l l2 : List SerV} {i : Nat} {a y : SerV} (h : l.map SerV.ser = (x.take i).map fun z => oneS z.ser) (ha : x[i]? = some a) (hy : y.ser = oneS a.ser) (hl : l2 = [y]) : (l ++ l2).map SerV.ser = (x.take (i + 1)).map fun z => oneS z.ser := by
  rw [hl, List.map_append, h, take_snoc ha, List.map_append]
  simp only [List.map_cons, List.map_nil, hy]
theorem few12_end {x l : List SerV} {i : Nat} (h : l.map SerV.ser = (x.take i).map fun z => oneS z.ser) (h1 : i ≤ x.length) (h2 : i ≤ 22) (h3 : i = x.length ∨ i = 22) : l.map SerV.ser = few12 (x.map SerV.ser) := by
  rw [h, few12, ← List.map_take, List.map_map]
  rcases h3 with h3 | h3
  · rw [h3, List.take_length, take_all (by omega)]; rfl
  · rw [h3]; rfl

theorem c_one (x : SerV) : Ct Tryz.prog 24 [] [.agg (encSer x)] x.fs (Rs (fun y : SerV => .agg (encSer y)) (fun _ => []) SerV.fs (fun y => y.ser = oneS x.ser)) := by
  refine Ct.post (Ct.of Tryz.func24 rfl (n := 12) rfl rfl rfl ?_)
  conv => whnf
  repeat' first
    | (refine Ob.mk rfl ?_; conv => whnf)
    | (refine Nx.mk ?_; conv => whnf)
    | (intro bk; conv => whnf)
    | (show CallK _ _ 42 _ _ _ _; refine CallK.rf (c_few04 x.L) (by repeat' (first | exact trivial | exact .head _ | apply List.Mem.tail | apply And.intro)) (fun l hl => Nx.go ?_))
    | (show CallK _ _ 43 _ _ _ _; refine CallK.rf (c_few10 x.S) (by repeat' (first | exact trivial | exact .head _ | apply List.Mem.tail | apply And.intro)) (fun s hs => Nx.go ?_))
    | (show Post _ _ _ _ _; exact Rs.post ⟨l, s, x.seen⟩ rfl (Imp.fs (by repeat' (first | exact trivial | exact .head _ | apply List.Mem.tail | apply And.intro))) (by rw [SerV.ser, hl, hs]; rfl))
    | (refine SemC.draw 1 [] [.t 0, .t 1, .t 3, .t 4, .t 6, .t 7, .s 2, .s 5, .t 8, .l 9] (by kernel_rfl) (by kernel_rfl) ?_; conv => whnf)
    | (show RdB _ _ _; refine RdB.mk' (by repeat (first | exact .head _ | apply List.Mem.tail)) (Nx.go ?_))
    | (refine Ob.mk (by omega) ?_; conv => whnf)

theorem c_few12 (x : Sli SerV) : Ct Tryz.prog 10 [] [x.sv] [x.f encSer 12, allF x.l] (Rs (fun y : Sli SerV => y.sv) (fun _ => []) (fun y => [y.f encSer 12, allF y.l]) (fun y => Tab y = few12 (Tab x))) := by
  refine Ct.len (enc := encSer) (L := x.l) (List.Mem.head _) fun hl => ?_
  refine Ct.post (Ct.of Tryz.func10 rfl (n := 24) rfl rfl rfl ?_)
  conv => whnf
  repeat' first
    | (show SemO _ _ (.buildSlice _ _ #[(0, .tmp 20)]) _ _ _ _ _; refine SemO.lit ?_; (conv => whnf); show BsV _ _ _ _ _; refine BsV.s [y] (by repeat (first | exact .nil | refine .cons (by first | rfl | exact encB_of (by omega) | exact encU_U (by omega)) ?_)) (fun xo _ => okSer xo) (fun ys hys => Nx.go ?_))
    | (show SemO _ _ (.call ⟨.builtin .append, _, _⟩) _ _ _ _ _; refine SemO.appendVec ?_; (conv => whnf); refine Ob.mk ⟨rfl, rfl, rfl, rfl, rfl⟩ ?_)
    | (show AppV _ _ _ _ _ _ _ _ _ _ _ _ _ _; refine ⟨rfl, _, .fact (by repeat (first | exact .head _ | apply List.Mem.tail)), app_le (N := 1048576) ?_ (of_decide_eq_true (by kernel_rfl)), ?_, fun bv pv cv hcv => Nx.go ?_⟩)
    | (refine Ob.mk rfl ?_; conv => whnf)
    | (refine Nx.mk ?_; conv => whnf)
    | (refine BR.yes ?_; conv => whnf)
    | (refine BR.no ?_; conv => whnf)
    | (intro bk; conv => whnf)
    | (show CallK _ _ _ _ _ _ _; refine CallK.rf (ct_facts (c_one xe) (all_at hxe)) (by repeat' (first | exact trivial | exact .head _ | apply List.Mem.tail | apply And.intro)) (fun y hy => Nx.go ?_))
    | (show SemC _ _ _ (.loop (.seq (.seq (.region 3 _ _) _) _)) _ _ _ _ _; refine SemC.loopU (c := (.seq (.seq (.region 3 _ _) _) _)) (fun j : RowS => [(3, .vec 0 j.p j.n j.c), (4, .int .i64 j.i)]) (fun j => [(j.b, .vec encSer 12 46 j.p j.n j.c j.l)]) (fun j => allF j.l :: [x.f encSer 12, allF x.l]) (fun j => j.i ≤ x.l.length ∧ j.i ≤ 22 ∧ j.n = j.l.length ∧ j.l.map SerV.ser = (x.l.take j.i).map fun z => oneS z.ser) (fun j => 22 - j.i) ⟨0, 0, none, 0, 0, []⟩ ?_; (conv => whnf); refine LoopQ.mk ?_ ⟨(by repeat (first | exact trivial | refine ⟨rfl, ?_⟩ | refine ⟨congrArg (Value.int _) (by omega), ?_⟩)), ((Imp.nilVec encSer 12 46).trans (Imp.all0.trans (Imp.to 1 rfl (by repeat' (first | exact trivial | exact .head _ | apply List.Mem.tail | apply And.intro)))))⟩ (fun j hi => ?_))
    | (show Exists _; refine Exists.intro (⟨j.i + 1, bv, pv, j.n + ys.l.length, cv, j.l ++ ys.l⟩) ⟨?_, ?_, rfl, ⟨(by repeat (first | exact trivial | refine ⟨rfl, ?_⟩ | refine ⟨congrArg (Value.int _) (by omega), ?_⟩)), (Imp.all1 hys (by repeat (first | exact .head _ | apply List.Mem.tail)) (by repeat' (first | exact trivial | exact .head _ | apply List.Mem.tail | apply And.intro))).trans (Imp.to 1 rfl (by repeat' (first | exact trivial | exact .head _ | apply List.Mem.tail | apply And.intro)))⟩⟩)
    | (show Post _ _ _ _ _; exact Rs.post ⟨j.l, j.p, j.c⟩ (by rw [hi.2.2.1]; rfl) ((Imp.pubS 0 rfl hi.2.2.1.symm).trans (Imp.fs (by repeat' (first | exact trivial | exact .head _ | apply List.Mem.tail | apply And.intro)))) (few12_end hi.2.2.2 hi.1 hi.2.1 (by omega)))
    | (refine Idx.nat ?_; conv => whnf)
    | (refine Idx.is _ rfl ?_; conv => whnf)
    | (show HasP _ _ _ _ _ _; refine HasP.mk' (by repeat (first | exact .head _ | apply List.Mem.tail)) (Nx.go ?_))
    | (show RdE _ _ _ _ _ _ _; refine RdE.s (by repeat (first | exact .head _ | apply List.Mem.tail)) (by omega) (fun xe hxe => Nx.go ?_))
    | (show RdB _ _ _; refine RdB.mk' (by repeat (first | exact .head _ | apply List.Mem.tail)) (Nx.go ?_))
    | (refine AR.i64 (by omega) ?_; conv => whnf)
    | (refine AR.u64 (by omega) ?_; conv => whnf)
    | (refine AR.u8 (by omega) ?_; conv => whnf)
    | (refine Ob.mk (by omega) ?_; conv => whnf)
    | (refine BR.mk (fun h => ?_) (fun h => ?_) <;> (first | rw [Bool.not_eq_true'] at h | rw [Bool.not_eq_false'] at h | skip) <;> (try rw [h]) <;> (first | replace h := of_decide_eq_true h | replace h := of_decide_eq_false h | replace h := eq_of_beq h | replace h := bne_iff_ne.1 h | replace h := beq_eq_false_iff_ne.1 h | replace h := bne_eq_false_iff_eq.1 h | skip) <;> conv => whnf)
  · exact ⟨Nat.zero_le _, Nat.zero_le _, rfl, rfl⟩
  all_goals (have hn : j.n ≤ 22 := by have h9 := congrArg List.length hi.2.2.2; rw [List.length_map, List.length_map, List.length_take] at h9; omega)
  · show j.n + _ ≤ _; rw [hys, List.length_singleton]; omega
  · show j.n + _ ≤ _; rw [hys, List.length_singleton]; omega
  · exact ⟨by show j.i + 1 ≤ _; omega, by show j.i + 1 ≤ _; omega, by show j.n + _ = (j.l ++ _).length; rw [List.length_append, hi.2.2.1], few12_step hi.2.2.2 hxe hy hys⟩
  · show 22 - (j.i + 1) < 22 - j.i; omega
end Go.Proofs.YtfgnkadbpjiaiaaGreatDoor

/- clock: K8 -/
namespace Go.Proofs.YtfgnkadbpjiaiaaGreatDoor
open Go.Proofs.YtfgnkadbpjiaiaaGreatDoor.W
set_option maxRecDepth 100000
set_option linter.unusedVariables false
def serC (s : Ser) : Bool := labR s.l && rightS s.s
/-- each is ahead of the next one -/
def risesT : List Ser → Bool
  | a :: b :: l => lessL a.l b.l && risesT (b :: l)
  | _ => true
/-- is it a table? -/
def tabR (t : List Ser) : Bool := decide (t.length ≤ 20) && t.all serC && risesT t
def small1 (s : Ser) : Prop := smallL s.l ∧ s.s.e.length ≤ 1000 ∧ s.s.c.length ≤ 1000 ∧ s.s.g.length ≤ 1000 ∧ s.s.regs.length ≤ 1000
def smallT (t : List Ser) : Prop := ∀ s ∈ t, small1 s
theorem few12_small (t : List Ser) : smallT (few12 t) := by
  intro s hs
  obtain ⟨x, _, rfl⟩ := List.mem_map.1 hs
  refine ⟨few4_small _, ?_, ?_, ?_, ?_⟩ <;> exact Nat.le_trans (List.length_take_le _ _) (by decide)
theorem tab_at {x : Sli SerV} {i : Nat} {a : SerV} (h : x.l[i]? = some a) : (Tab x)[i]? = some a.ser := by simp [Tab, h]
theorem small_at {x : Sli SerV} {i : Nat} {a : SerV} (hs : smallT (Tab x)) (h : x.l[i]? = some a) : small1 a.ser := hs _ (List.mem_of_getElem? (tab_at h))
def encSer2 (a b : SerV) : List SV := [.agg (encSer a), .agg (encSer b)]
def pairsS (l : List SerV) : List (List SV) := (l.zip l.tail).map fun p => encSer2 p.1 p.2
theorem pairsS_len (l : List SerV) : (pairsS l).length = l.length - 1 := by simp [pairsS]
theorem pairsS_at {l : List SerV} {i : Nat} {a b : SerV} (ha : l[i]? = some a) (hb : l[i + 1]? = some b) : ((pairsS l).map dens)[i]? = some (dens (encSer2 a b)) := by
  have : (l.zip l.tail)[i]? = some (a, b) := by rw [List.getElem?_zip_eq_some]; simp [ha, hb]
  simp [pairsS, this]
theorem pairsS_inv {l : List SerV} {i : Nat} {v : List SV} (h : (pairsS l)[i]? = some v) : ∃ a b, l[i]? = some a ∧ l[i + 1]? = some b ∧ v = encSer2 a b := by
  simp only [pairsS, List.getElem?_map, Option.map_eq_some_iff] at h
  obtain ⟨⟨a, b⟩, h1, rfl⟩ := h
  rw [List.getElem?_zip_eq_some] at h1
  exact ⟨a, b, h1.1, by simpa using h1.2, rfl⟩
theorem risesT_1 (l : List Ser) : risesT (l.take 1) = true := by
  match l with
  | [] => rfl
  | [x] => rfl
  | x :: y :: l => rfl
theorem risesT_snoc {l : List Ser} {i : Nat} {a b : Ser} (ha : l[i]? = some a) (hb : l[i + 1]? = some b) : risesT (l.take (i + 2)) = (risesT (l.take (i + 1)) && lessL a.l b.l) := by
  induction i generalizing l with
  | zero =>
    match l with
    | [] => simp at ha
    | [x] => simp at hb
    | x :: y :: l => simp at ha hb; subst ha hb; simp [risesT]
  | succ i ih =>
    match l with
    | [] => simp at ha
    | [x] => simp at ha
    | x :: y :: l =>
      have h1 := ih (l := y :: l) (by simpa using ha) (by simpa using hb)
      simp only [List.take_succ_cons] at h1 ⊢
      rw [risesT, risesT, h1, Bool.and_assoc]
theorem risesT_take {l : List Ser} (n : Nat) (h : risesT (l.take n) = false) : risesT l = false := by
  induction l generalizing n with
  | nil => simp [risesT] at h
  | cons x l ih =>
    match n, l with
    | 0, _ => simp [risesT] at h
    | 1, l => rw [List.take_succ_cons, List.take_zero] at h; cases h
    | n + 2, [] => simp [risesT] at h
    | n + 2, y :: l =>
      rw [List.take_succ_cons, List.take_succ_cons, risesT] at h
      rw [risesT]
      rcases Bool.and_eq_false_iff.1 h with h1 | h1
      · rw [h1]; rfl
      · rw [ih (n + 1) (by rw [List.take_succ_cons]; exact h1), Bool.and_false]
theorem all2_at {l : List SerV} {i j : Nat} {a b : SerV} (ha : l[i]? = some a) (hb : l[j]? = some b) (A : Nat → Prop) (w : World) (hh : Hold [allF l] A w) : Hold [a.L.f encLab 2, b.L.f encLab 2] A w :=
  Hold.cons (all_at ha A w hh _ (List.Mem.head _)) (Hold.cons (all_at hb A w hh _ (List.Mem.head _)) Hold.nil)
abbrev wrongS : SV := .iface 98 (.agg [])
def chkV (t : List Ser) : SV := if tabR t = true then .raw .nilIface else wrongS

theorem c_rowR (x : SerV) (hw : small1 x.ser) : Ct Tryz.prog 51 [] [.agg (encSer x)] x.fs (Rv (.bool (serC x.ser))) := by
  refine Ct.of Tryz.func51 rfl (n := 13) rfl rfl rfl ?_
  conv => whnf
  repeat' first
    | (refine Ob.mk rfl ?_; conv => whnf)
    | (refine Nx.mk ?_; conv => whnf)
    | (refine BR.yes ?_; conv => whnf)
    | (refine BR.no ?_; conv => whnf)
    | (intro bk; conv => whnf)
    | (show CallK _ _ 72 _ _ _ _; refine CallK.rv (c_labR x.L hw.1) (by repeat' (first | exact trivial | exact .head _ | apply List.Mem.tail | apply And.intro)) (Nx.go ?_))
    | (show CallK _ _ 73 _ _ _ _; refine CallK.rv (c_right x.S (by have h9 : x.S.e.l.length ≤ 1000 := hw.2.1; omega) (by have h9 : x.S.c.l.length ≤ 1000 := hw.2.2.1; omega) (by have h9 : x.S.g.l.length ≤ 1000 := hw.2.2.2.1; omega) (by have h9 : x.S.regs.length ≤ 1000 := hw.2.2.2.2; omega)) (by repeat' (first | exact trivial | exact .head _ | apply List.Mem.tail | apply And.intro)) (Nx.go ?_))
    | (show RdB _ _ _; refine RdB.mk' (by repeat (first | exact .head _ | apply List.Mem.tail)) (Nx.go ?_))
    | (refine Ob.mk (by omega) ?_; conv => whnf)
    | (refine BR.mk (fun h => ?_) (fun h => ?_) <;> (first | rw [Bool.not_eq_true'] at h | rw [Bool.not_eq_false'] at h | skip) <;> (try rw [h]) <;> (first | replace h := of_decide_eq_true h | replace h := of_decide_eq_false h | replace h := eq_of_beq h | replace h := bne_iff_ne.1 h | replace h := beq_eq_false_iff_ne.1 h | replace h := bne_eq_false_iff_eq.1 h | skip) <;> conv => whnf)
  all_goals (simp only [resS, serC, SerV.ser]; simp_all [SerV.ser])

theorem c_chk1 (x : SerV) (h : small1 x.ser) : Ct Tryz.prog 50 [] [.agg (encSer x)] x.fs (Rv (.bool (!serC x.ser))) := by
  refine Ct.of Tryz.func50 rfl (n := 7) rfl rfl rfl ?_
  conv => whnf
  repeat' first
    | (refine Ob.mk rfl ?_; conv => whnf)
    | (refine Nx.mk ?_; conv => whnf)
    | (intro bk; conv => whnf)
    | (show CallK _ _ 51 _ _ _ _; refine CallK.rv (c_rowR x h) (by repeat' (first | exact trivial | exact .head _ | apply List.Mem.tail | apply And.intro)) (Nx.go ?_))
    | (show RdB _ _ _; refine RdB.mk' (by repeat (first | exact .head _ | apply List.Mem.tail)) (Nx.go ?_))
    | (refine AR.i64 (by omega) ?_; conv => whnf)
    | (refine AR.u64 (by omega) ?_; conv => whnf)
    | (refine AR.u8 (by omega) ?_; conv => whnf)
    | (refine Ob.mk (by omega) ?_; conv => whnf)
  rfl

theorem c_idxT (x : Sli SerV) (hs : smallT (Tab x)) : Ct Tryz.prog 44 [] [x.sv, .fn 50 [] []] [x.f encSer 12, allF x.l] (Rs (fun n : Int => .int .i64 n) (fun _ => []) (fun _ => []) (fun n => (0 ≤ n) = ((Tab x).all serC = false))) := by
  refine Ct.len (enc := encSer) (L := x.l) (List.Mem.head _) fun hl => ?_
  refine Ct.post (Ct.of Tryz.func44 rfl (n := 19) rfl rfl rfl ?_)
  conv => whnf
  repeat' first
    | (refine Ob.mk rfl ?_; conv => whnf)
    | (refine Nx.mk ?_; conv => whnf)
    | (refine BR.yes ?_; conv => whnf)
    | (refine BR.no ?_; conv => whnf)
    | (show CallK _ _ _ _ _ _ _; refine CallK.rv (ct_facts (c_chk1 xe (small_at hs hxe)) (all_at hxe)) (by repeat' (first | exact trivial | exact .head _ | apply List.Mem.tail | apply And.intro)) (Nx.go ?_))
    | (show SemC _ _ _ (.loop (.seq (.region 2 _ _) _)) _ _ _ _ _; refine SemC.loopC (c := (.seq (.region 2 _ _) _)) (fun i : Nat => [(8, .int .i64 i)]) (fun i => i ≤ x.l.length ∧ ((Tab x).take i).all serC = true) (fun i => x.l.length - i) 0 ?_; (conv => whnf); refine LoopQ.mk ?_ ⟨(by repeat (first | exact trivial | refine ⟨rfl, ?_⟩ | refine ⟨congrArg (Value.int _) (by omega), ?_⟩)), Imp.refl⟩ (fun i hi => ?_))
    | (show Exists _; refine Exists.intro (i + 1) ⟨?_, ?_, rfl, ⟨(by repeat (first | exact trivial | refine ⟨rfl, ?_⟩ | refine ⟨congrArg (Value.int _) (by omega), ?_⟩)), Imp.refl⟩⟩)
    | (show Post _ _ _ _ _; exact Rs.post (i : Int) rfl (Imp.fs (by repeat' (first | exact trivial | exact .head _ | apply List.Mem.tail | apply And.intro))) (by rw [allL_no (tab_at hxe) h]; simp))
    | (show Post _ _ _ _ _; exact Rs.post (-1 : Int) rfl (Imp.fs (by repeat' (first | exact trivial | exact .head _ | apply List.Mem.tail | apply And.intro))) (by have h2 := hi.2; rw [take_all (by rw [Tab, List.length_map]; omega)] at h2; rw [h2]; simp))
    | (refine Idx.nat ?_; conv => whnf)
    | (refine Idx.is _ rfl ?_; conv => whnf)
    | (show HasP _ _ _ _ _ _; refine HasP.mk' (by repeat (first | exact .head _ | apply List.Mem.tail)) (Nx.go ?_))
    | (show RdE _ _ _ _ _ _ _; refine RdE.s (by repeat (first | exact .head _ | apply List.Mem.tail)) (by omega) (fun xe hxe => Nx.go ?_))
    | (show RdB _ _ _; refine RdB.mk' (by repeat (first | exact .head _ | apply List.Mem.tail)) (Nx.go ?_))
    | (refine AR.i64 (by omega) ?_; conv => whnf)
    | (refine AR.u64 (by omega) ?_; conv => whnf)
    | (refine AR.u8 (by omega) ?_; conv => whnf)
    | (refine Ob.mk (by omega) ?_; conv => whnf)
    | (refine BR.mk (fun h => ?_) (fun h => ?_) <;> (first | rw [Bool.not_eq_true'] at h | rw [Bool.not_eq_false'] at h | skip) <;> (try rw [h]) <;> (first | replace h := of_decide_eq_true h | replace h := of_decide_eq_false h | replace h := eq_of_beq h | replace h := bne_iff_ne.1 h | replace h := beq_eq_false_iff_ne.1 h | replace h := bne_eq_false_iff_eq.1 h | skip) <;> conv => whnf)
  · exact ⟨Nat.zero_le _, rfl⟩
  · exact ⟨by omega, allL_step hi.2 (tab_at hxe) h⟩
  · omega

theorem c_cfT (x : Sli SerV) (hs : smallT (Tab x)) : Ct Tryz.prog 52 [] [x.sv, .fn 50 [] []] [x.f encSer 12, allF x.l] (Rv (.bool (!(Tab x).all serC))) := by
  refine Ct.of Tryz.func52 rfl (n := 9) rfl rfl rfl ?_
  conv => whnf
  repeat' first
    | (refine Ob.mk rfl ?_; conv => whnf)
    | (refine Nx.mk ?_; conv => whnf)
    | (show CallK _ _ 44 _ _ _ _; refine CallK.rf (c_idxT x hs) (by repeat' (first | exact trivial | exact .head _ | apply List.Mem.tail | apply And.intro)) (fun n hn => Nx.go ?_))
    | (refine AR.i64 (by omega) ?_; conv => whnf)
    | (refine AR.u64 (by omega) ?_; conv => whnf)
    | (refine AR.u8 (by omega) ?_; conv => whnf)
    | (refine Ob.mk (by omega) ?_; conv => whnf)
  all_goals grind [resS]

theorem c_pairsS (x : Sli SerV) : Ct Tryz.prog 53 [] [x.sv] [x.f encSer 12] (Rs (fun b : Nat => .fn 74 [] [.raw (.pointer (some ⟨b, 0, none⟩))]) (fun _ => []) (fun b => [blkF b [x.sv] 22, x.f encSer 12]) (fun _ => True)) := by
  refine Ct.post (Ct.of Tryz.func53 rfl (n := 4) rfl rfl rfl ?_)
  conv => whnf
  repeat' first
    | (refine Ob.mk rfl ?_; conv => whnf)
    | (refine Nx.mk ?_; conv => whnf)
    | (intro bk; conv => whnf)
    | (show Post _ _ _ _ _; exact Rs.post bk rfl ((Imp.pubCells 0 rfl).trans (Imp.fs (by repeat' (first | exact trivial | exact .head _ | apply List.Mem.tail | apply And.intro)))) trivial)
    | (refine Ob.mk (by omega) ?_; conv => whnf)

theorem i_pairsS (x : Sli SerV) (b : Nat) (hl : x.l.length ≤ 9223372036854775807) : It Tryz.prog 74 [] [.raw (.pointer (some ⟨b, 0, none⟩))] [blkF b [x.sv] 22, x.f encSer 12] ((pairsS x.l).map dens) (fun _ _ => True) := by
  refine It.of Tryz.func74 rfl (n := 24) rfl rfl rfl (fun lp => ?_)
  conv => whnf
  repeat' first
    | (refine Ob.mk rfl ?_; conv => whnf)
    | (refine Nx.mk ?_; conv => whnf)
    | (refine BR.yes ?_; conv => whnf)
    | (refine BR.no ?_; conv => whnf)
    | (show SemC _ _ _ (.loop (.seq (.seq (.region 1 _ _) _) _)) _ _ _ _ _; refine SemC.loopB (c := (.seq (.seq (.region 1 _ _) _) _)) (fun j : Nat => [(3, .int .i64 (j + 1))]) (fun j => [(0, .seq lp ((pairsS x.l).map dens) (some j))]) (fun j => j ≤ x.l.length - 1) (fun j => x.l.length - j) 0 ?_; (conv => whnf); refine LoopQ.mk ?_ ⟨(by repeat (first | exact trivial | refine ⟨rfl, ?_⟩ | refine ⟨congrArg (Value.int _) (by omega), ?_⟩)), Imp.refl⟩ (fun j hi => ?_))
    | (show Exists _; refine Exists.intro (j + 1) ⟨?_, ?_, rfl, ⟨(by repeat (first | exact trivial | refine ⟨rfl, ?_⟩ | refine ⟨congrArg (Value.int _) (by omega), ?_⟩)), Imp.refl⟩⟩)
    | (refine Idx.is j (by omega) ?_; conv => whnf)
    | (refine Idx.is (j + 1) (by omega) ?_; conv => whnf)
    | (refine Ob.mk ⟨rfl, ?_⟩ ⟨Nx.go ?_, Nx.go ?_⟩)
    | (exact ⟨_, _, rfl, Or.inl rfl, trivial⟩)
    | (refine ⟨_, _, rfl, Or.inr (congrArg some ?_), trivial⟩)
    | (refine SemC.draw 3 [] [.t 0, .t 1, .t 2, .t 3, .t 4, .t 5, .t 6, .t 7, .t 8, .t 9, .t 10, .t 11, .l 12, .t 13] (by kernel_rfl) (by kernel_rfl) ?_; conv => whnf)
    | (refine Idx.nat ?_; conv => whnf)
    | (refine Idx.is _ rfl ?_; conv => whnf)
    | (show HasP _ _ _ _ _ _; refine HasP.mk' (by repeat (first | exact .head _ | apply List.Mem.tail)) (Nx.go ?_))
    | (show RdE _ _ _ _ _ _ _; refine RdE.s (by repeat (first | exact .head _ | apply List.Mem.tail)) (by omega) (fun xe hxe => Nx.go ?_))
    | (show RdB _ _ _; refine RdB.mk' (by repeat (first | exact .head _ | apply List.Mem.tail)) (Nx.go ?_))
    | (refine AR.i64 (by omega) ?_; conv => whnf)
    | (refine AR.u64 (by omega) ?_; conv => whnf)
    | (refine AR.u8 (by omega) ?_; conv => whnf)
    | (refine Ob.mk (by omega) ?_; conv => whnf)
    | (refine BR.mk (fun h => ?_) (fun h => ?_) <;> (first | rw [Bool.not_eq_true'] at h | rw [Bool.not_eq_false'] at h | skip) <;> (try rw [h]) <;> (first | replace h := of_decide_eq_true h | replace h := of_decide_eq_false h | replace h := eq_of_beq h | replace h := bne_iff_ne.1 h | replace h := beq_eq_false_iff_ne.1 h | replace h := bne_eq_false_iff_eq.1 h | skip) <;> conv => whnf)
  all_goals first | exact pairsS_at (by assumption) (by assumption) | grind [pairsS_len]

theorem c_chk (z : Sli SerV) (hs : smallT (Tab z)) : Ct Tryz.prog 36 [] [z.sv] [z.f encSer 12, allF z.l] (Rv (chkV (Tab z))) := by
  refine Ct.len (enc := encSer) (L := z.l) (List.Mem.head _) fun hl => ?_
  have ht : (Tab z).length = z.l.length := List.length_map _
  refine Ct.of Tryz.func36 rfl (n := 32) rfl rfl rfl ?_
  conv => whnf
  repeat' first
    | (refine Ob.mk rfl ?_; conv => whnf)
    | (refine Nx.mk ?_; conv => whnf)
    | (refine BR.yes ?_; conv => whnf)
    | (refine BR.no ?_; conv => whnf)
    | (intro bk; conv => whnf)
    | (show CallK _ _ 52 _ _ _ _; refine CallK.rv (c_cfT z hs) (by repeat' (first | exact trivial | exact .head _ | apply List.Mem.tail | apply And.intro)) (Nx.go ?_))
    | (show CallK _ _ 53 _ _ _ _; refine CallK.rf (c_pairsS z) (by repeat' (first | exact trivial | exact .head _ | apply List.Mem.tail | apply And.intro)) (fun b hb => Nx.go ?_))
    | (show CallK _ _ _ _ _ _ _; refine CallK.rv (ct_facts (c_less u.L v.L) (all2_at hu hv)) (by repeat' (first | exact trivial | exact .head _ | apply List.Mem.tail | apply And.intro)) (Nx.go ?_))
    | (show SemC _ _ _ (.rangeFunc _ _ (.seq (.region 6 _ _) _) _) _ _ _ _ _; refine SemC.rangeC (σ := SV) (fun lb y => setCells lb 0 [y]) (fun n y => y = .raw .nilIface ∧ risesT ((Tab z).take (n + 1)) = true) (fun c y => c = .exit 0 ∧ y = wrongS ∧ risesT (Tab z) = false) (pairsS z.l) 1 (i_pairsS z b hl) (_) ?_ (fun _ => rfl) (fun D r => Imp.to 3 rfl (by repeat' (first | exact trivial | exact .head _ | apply List.Mem.tail | apply And.intro))) (by repeat' (first | exact trivial | exact .head _ | apply List.Mem.tail | apply And.intro)) rfl (fun D rc nr x a hx ha => ?_) (fun D x o hx => ?_) (fun D c x o hx => ?_))
    | (refine Nx1.mk ?_; obtain ⟨u, v, hu, hv, rfl⟩ := pairsS_inv ha; (conv => whnf))
    | (refine Nx2.mk ?_; obtain ⟨rfl, rfl, hs2⟩ := hx; (conv => whnf))
    | (show EndS _ _ _ _ _ _ _; refine EndS.mark 1 rfl rfl (fun o => Nx.go ?_))
    | (refine Ob.mk ⟨rfl, rfl⟩ ?_; conv => whnf)
    | (show Exists _; refine Exists.intro (x) ⟨?_, Imp.to 3 rfl (by repeat' (first | exact trivial | exact .head _ | apply List.Mem.tail | apply And.intro))⟩)
    | (show Exists _; refine Exists.intro (wrongS) ⟨?_, Imp.to 3 rfl (by repeat' (first | exact trivial | exact .head _ | apply List.Mem.tail | apply And.intro))⟩)
    | (show RdB _ _ _; refine RdB.mk' (by repeat (first | exact .head _ | apply List.Mem.tail)) (Nx.go ?_))
    | (refine AR.i64 (by omega) ?_; conv => whnf)
    | (refine AR.u64 (by omega) ?_; conv => whnf)
    | (refine AR.u8 (by omega) ?_; conv => whnf)
    | (refine Ob.mk (by omega) ?_; conv => whnf)
    | (refine BR.mk (fun h => ?_) (fun h => ?_) <;> (first | rw [Bool.not_eq_true'] at h | rw [Bool.not_eq_false'] at h | skip) <;> (try rw [h]) <;> (first | replace h := of_decide_eq_true h | replace h := of_decide_eq_false h | replace h := eq_of_beq h | replace h := bne_iff_ne.1 h | replace h := beq_eq_false_iff_ne.1 h | replace h := bne_eq_false_iff_eq.1 h | skip) <;> conv => whnf)
  · rw [chkV, if_neg (by rw [tabR, decide_eq_false (by omega)]; simp)]; rfl
  · rw [chkV, if_neg (by rw [tabR, h]; simp)]; rfl
  · exact ⟨rfl, by rw [Nat.zero_add]; exact risesT_1 _⟩
  · have h9 := risesT_snoc (tab_at hu) (tab_at hv); exact ⟨rfl, rfl, risesT_take (nr + 2) (by rw [h9, show lessL u.ser.l v.ser.l = false from decide_eq_false h, Bool.and_false])⟩
  · have h9 := risesT_snoc (tab_at hu) (tab_at hv); exact ⟨hx.1, by show risesT (List.take (nr + 1 + 1) _) = true; rw [h9, hx.2, show lessL u.ser.l v.ser.l = true from decide_eq_true h]; rfl⟩
  · rw [hx.1, chkV, if_pos (by rw [tabR, decide_eq_true (by omega), h]; have h9 := hx.2; rw [pairsS_len, take_all (by omega)] at h9; rw [h9]; rfl)]; rfl
  · rw [chkV, if_neg (by rw [tabR, hs2]; simp)]; rfl

theorem c_chkT (z : Sli SerV) (hs : smallT (Tab z)) (h : tabR (Tab z) = true) : Ct Tryz.prog 36 [] [z.sv] [z.f encSer 12, allF z.l] (Rv (.raw .nilIface)) := by
  have h1 := c_chk z hs
  rw [chkV, if_pos h] at h1; exact h1
theorem c_chkN (z : Sli SerV) (hs : smallT (Tab z)) (h : tabR (Tab z) = false) : Ct Tryz.prog 36 [] [z.sv] [z.f encSer 12, allF z.l] (Rv wrongS) := by
  have h1 := c_chk z hs
  rw [chkV, if_neg (by rw [h]; decide)] at h1; exact h1

theorem c_tabR (z : Sli SerV) (hs : smallT (Tab z)) : Ct Tryz.prog 15 [] [z.sv] [z.f encSer 12, allF z.l] (Rv (.bool (tabR (Tab z)))) := by
  refine Ct.of Tryz.func15 rfl (n := 6) rfl rfl rfl ?_
  conv => whnf
  repeat' first
    | (refine Ob.mk rfl ?_; conv => whnf)
    | (refine Nx.mk ?_; conv => whnf)
    | (show CallK _ _ 36 _ _ _ _; refine CallK.rv (c_chkT z hs ht) (by repeat' (first | exact trivial | exact .head _ | apply List.Mem.tail | apply And.intro)) (Nx.go ?_))
    | (show CallK _ _ 36 _ _ _ _; refine CallK.rv (c_chkN z hs ht) (by repeat' (first | exact trivial | exact .head _ | apply List.Mem.tail | apply And.intro)) (Nx.go ?_))
    | (show CallK _ _ 36 _ _ _ _; rcases ht : tabR (Tab z))
    | (refine AR.i64 (by omega) ?_; conv => whnf)
    | (refine AR.u64 (by omega) ?_; conv => whnf)
    | (refine AR.u8 (by omega) ?_; conv => whnf)
    | (refine Ob.mk (by omega) ?_; conv => whnf)
  all_goals rfl
end Go.Proofs.YtfgnkadbpjiaiaaGreatDoor
