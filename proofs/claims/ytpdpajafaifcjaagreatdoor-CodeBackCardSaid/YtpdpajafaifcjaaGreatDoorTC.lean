/- YtpdpajafaifcjaaGreatDoorTC: a part of the proof of the given statement CodeBackCardSaid; no condition beyond the statement. -/
import Derived.Test.YtpdpajafaifcjaaGreatDoorTB
import Derived.Test.YtpdpajafaifcjaaGreatDoorWB
set_option linter.unusedVariables false
/- sketch -/
namespace Go.Proofs.YtpdpajafaifcjaaGreatDoor
open Go.Proofs.YtpdpajafaifcjaaGreatDoor.W
set_option maxRecDepth 100000
set_option linter.unusedVariables false
theorem Imp.nilF {α : Type} {P : Program} {lb : LBs} {Φ : Facts} (enc : α → List SV) (k : Nat) : Imp P lb Φ lb ((Sli.mk ([] : List α) none 0).f enc k :: Φ) :=
  Imp.fact fun _ _ _ => ⟨by simp, rfl, ⟨by simp [flat], Nat.le_refl _, Nat.zero_le _, fun _ => rfl, .inl rfl⟩⟩
/-- what a kind's bytes tell, behind kind and level -/
def takeR (k g : Int) (s : List UInt8) : RR Sk :=
  if k = 1 then
    if g = 0 then match cntR 64 1 s with
      | .more => .more
      | .bad => .bad
      | .ok l q => .ok ⟨1, 0, sumsU 0 l, 0, [], 0, 0, [], 0, []⟩ q
    else if (s.length : Int) < ((2 ^ (8 - g).toNat : Nat) : Int) then .more else .ok ⟨1, g, [], 8 - g, s.take (2 ^ (8 - g).toNat), 0, 0, [], 0, []⟩ (s.drop (2 ^ (8 - g).toNat))
  else if k = 2 then match listR (2 * (32 / 2 ^ g.toNat)) s with
    | .more => .more
    | .bad => .bad
    | .ok l q => .ok ⟨2, g, [], 0, [], 2, ((32 / 2 ^ g.toNat : Nat) : Int), l, 0, []⟩ q
  else match cntR 1000 2 s with
    | .more => .more
    | .bad => .bad
    | .ok l q => .ok ⟨3, g, [], 0, [], 0, 0, [], 3 - g, binsV 0 l⟩ q
/-- the sketch that bytes tell -/
def skR (s : List UInt8) : RR Sk :=
  match numR 3 s with
  | .more => .more
  | .bad => .bad
  | .ok n q => if (n.toNat : Int) = 0 then .bad else match numR (botI n.toNat) q with
    | .more => .more
    | .bad => .bad
    | .ok g r => takeR n.toNat g.toNat r
theorem listR_len {k : Nat} {s : List UInt8} {l : List UInt64} {q : List UInt8} (h : listR k s = .ok l q) : l.length = k ∧ q.length ≤ s.length := by
  induction k generalizing s l q with
  | zero => rw [listR] at h; cases h; exact ⟨rfl, Nat.le_refl _⟩
  | succ k ih =>
    rw [listR] at h
    split at h
    · cases h
    · cases h
    · rename_i n r hn
      have h2 := numR_len hn
      split at h
      · cases h
      · cases h
      · rename_i l' q' hl'
        cases h
        have := ih hl'
        exact ⟨by simp [this.1], by omega⟩
theorem ct_imp {P : Program} {f : FuncId} {bs : LBs} {args : List SV} {Φ : Facts} {R R' : SV → LBs → Facts → Prop} (h : Ct P f bs args Φ R) (hR : ∀ v lb Φ, R v lb Φ → R' v lb Φ) : Ct P f bs args Φ R' :=
  ⟨fun M A w hr => (h.h M A w hr).mono fun _ _ ⟨r, bs', Ψ, hv, h1, h2⟩ => ⟨r, bs', Ψ, hv, hR _ _ _ h1, h2⟩⟩
theorem cntR_len {mx : Int} {w : Nat} {s : List UInt8} {l : List UInt64} {q : List UInt8} (h : cntR mx w s = .ok l q) (hx : mx ≤ 18446744073709551615) : (l.length : Int) ≤ mx * w ∧ q.length ≤ s.length := by
  unfold cntR at h
  split at h
  · cases h
  · cases h
  · rename_i n r hn
    have h1 := numR_le hn hx
    have h2 := numR_len hn
    have h3 := listR_len h
    have h4 : ((n.toNat * w : Nat) : Int) = (n.toNat : Int) * w := by rw [Int.natCast_mul]
    have h5 : (n.toNat : Int) * w ≤ mx * w := Int.mul_le_mul_of_nonneg_right h1 (by omega)
    exact ⟨by rw [h3.1, h4]; exact h5, by omega⟩
theorem c_rnumV (b : Nat) (s : List UInt8) (X : X10) (mx : Int) (e : Errs) (n : UInt64) (r : List UInt8) (k : Int) (hg : numR mx s = .ok n r) (hk : (n.toNat : Int) = k) (hs : s.length ≤ 9223372036854775800) (hx : mx ≤ 18446744073709551615) : Ct Tryz.prog 34 [(b, .cells [.str s, X.x1, X.x2, X.x3, X.x4, X.x5, X.x6, X.x7, X.x8, X.x9, X.x10] 59)] [.own 0 b 0, .int .u64 mx] (gAll e) (Rs (fun _ : List UInt8 => .tup [.int .u64 k, .raw .nilIface]) (fun r => [(b, .cells [.str r, X.x1, X.x2, X.x3, X.x4, X.x5, X.x6, X.x7, X.x8, X.x9, X.x10] 59)]) (fun _ => []) (fun q => q = r)) := by
  subst hk
  refine ct_imp (c_rnumX b s X mx e _ hg hs hx) ?_
  rintro v lb Φ ⟨x, rfl, rfl, rfl, h⟩
  exact ⟨x, rfl, rfl, rfl, h _ _ rfl⟩

theorem skR_0 {s : List UInt8} {n : UInt64} {r : List UInt8} (hn : numR 3 s = .ok n r) (hk : (n.toNat : Int) = 0) : skR s = .bad := by simp only [skR, hn, hk, if_true]
theorem skR_lv {s : List UInt8} {n : UInt64} {r : List UInt8} {k : Int} {x : RR UInt64} (hn : numR 3 s = .ok n r) (hk : (n.toNat : Int) = k) (h0 : ¬ k = 0) (hm : numR (botI k) r = x) : skR s = (match (motive := RR UInt64 → RR Sk) x with | .more => .more | .bad => .bad | .ok g r => takeR k g.toNat r) := by
  subst hk hm
  simp only [skR, hn, if_neg h0]
theorem skR_m {s : List UInt8} (hn : numR 3 s = .more) : skR s = .more := by simp only [skR, hn]
theorem skR_b {s : List UInt8} (hn : numR 3 s = .bad) : skR s = .bad := by simp only [skR, hn]
theorem tk1 {g : Int} {s : List UInt8} {x : RR (List UInt64)} (hg : g = 0) (hl : cntR 64 1 s = x) : takeR 1 g s = (match (motive := RR (List UInt64) → RR Sk) x with | .more => .more | .bad => .bad | .ok l q => .ok ⟨1, 0, sumsU 0 l, 0, [], 0, 0, [], 0, []⟩ q) := by subst hg hl; rfl
theorem tk1m {g : Int} {s : List UInt8} (hg : ¬ g = 0) (hl : (s.length : Int) < ((2 ^ (8 - g).toNat : Nat) : Int)) : takeR 1 g s = .more := by simp only [takeR, if_true, if_neg hg, if_pos hl]
theorem tk1o {g : Int} {s : List UInt8} (hg : ¬ g = 0) (hl : ¬ (s.length : Int) < ((2 ^ (8 - g).toNat : Nat) : Int)) : takeR 1 g s = .ok ⟨1, g, [], 8 - g, s.take (2 ^ (8 - g).toNat), 0, 0, [], 0, []⟩ (s.drop (2 ^ (8 - g).toNat)) := by simp only [takeR, if_true, if_neg hg, if_neg hl]
theorem tk2 {g : Int} {s : List UInt8} {x : RR (List UInt64)} (hl : listR (2 * (32 / 2 ^ g.toNat)) s = x) : takeR 2 g s = (match (motive := RR (List UInt64) → RR Sk) x with | .more => .more | .bad => .bad | .ok l q => .ok ⟨2, g, [], 0, [], 2, ((32 / 2 ^ g.toNat : Nat) : Int), l, 0, []⟩ q) := by subst hl; rfl
theorem tk3 {g : Int} {s : List UInt8} {x : RR (List UInt64)} (hl : cntR 1000 2 s = x) : takeR 3 g s = (match (motive := RR (List UInt64) → RR Sk) x with | .more => .more | .bad => .bad | .ok l q => .ok ⟨3, g, [], 0, [], 0, 0, [], 3 - g, binsV 0 l⟩ q) := by subst hl; rfl
def RR.err {α : Type} (e : Errs) : RR α → SV
  | .more => er e.cm
  | .bad => er e.cn
  | .ok _ _ => .raw .nilIface
def RR.bl {α : Type} (b : Nat) (z : List UInt8 × SkV) : RR α → LBs
  | .ok _ _ => [(b, .cells (.str z.1 :: z.2.cs) 59)]
  | _ => [(b, .hole)]
def RR.fs {α : Type} (z : List UInt8 × SkV) : RR α → Facts
  | .ok _ _ => z.2.fs
  | _ => []
abbrev nilU : Sli UInt64 := ⟨[], none, 0⟩
abbrev nilB : Sli Bin := ⟨[], none, 0⟩
abbrev sk0 : SkV := ⟨0, 0, nilU, 0, [], 0, 0, nilU, 0, nilB⟩
theorem num3 {n : UInt64} (h : (n.toNat : Int) ≤ 3) : (n.toNat : Int) = 0 ∨ (n.toNat : Int) = 1 ∨ (n.toNat : Int) = 2 ∨ (n.toNat : Int) = 3 := by omega
theorem c_bot1 : Ct Tryz.prog 35 [] [.int .i64 1] [] (Rv (.int .i64 4)) := c_bot 1
theorem c_bot2 : Ct Tryz.prog 35 [] [.int .i64 2] [] (Rv (.int .i64 3)) := c_bot 2
theorem c_bot3 : Ct Tryz.prog 35 [] [.int .i64 3] [] (Rv (.int .i64 3)) := c_bot 3

theorem c_sk (b : Nat) (s : List UInt8) (e : Errs) (hs : s.length ≤ 1000000) : Ct Tryz.prog 21 [(b, .cells [.str s, .int .i64 0, .int .i64 0, .raw (.slice none 0 0), .int .i64 0, .str [], .int .i64 0, .int .i64 0, .raw (.slice none 0 0), .int .i64 0, .raw (.slice none 0 0)] 59)] [.own 0 b 0] (gAll e) (Rs (fun _ : List UInt8 × SkV => (skR s).err e) (fun z => (skR s).bl b z) (fun z => (skR s).fs z) (fun z => ∀ x q, skR s = .ok x q → z.1 = q ∧ z.2.sk = x)) := by
  refine Ct.post (Ct.of Tryz.func21 rfl (n := 57) rfl rfl rfl ?_)
  conv => whnf
  repeat' first
    | (show SemO _ _ (.makeMap _ _) _ _ _ _ _; refine SemO.makeMap (κ := Int) (Value.int .i64) ?_; conv => whnf)
    | (show SemO _ _ (.insert _ _ _ _) _ _ _ _ _; refine SemO.insert (κ := Int) ?_ _ (Or.inl rfl); (conv => whnf); refine ⟨inferInstance, KeyLaw.int rfl, KeyIs.int (Ob.mk ⟨rfl, rfl⟩ ?_)⟩; intro L1 hL1; subst hL1; conv => whnf)
    | (show SemO _ _ (.lookup _ _ _ _) _ _ _ _ _; refine SemO.lookup ?_; (conv => whnf); refine ⟨inferInstance, KeyLaw.int rfl, KeyIs.int (Ob.mk rfl ?_)⟩; conv => whnf)
    | (show AR .i64 (g.toNat : Int) _; refine AR.i64 (by have h1 := numR_le hm (by decide); omega) ?_; conv => whnf)
    | (refine Ob.mk rfl ?_; conv => whnf)
    | (refine Nx.mk ?_; conv => whnf)
    | (refine BR.yes ?_; conv => whnf)
    | (refine BR.no ?_; conv => whnf)
    | (intro bk; conv => whnf)
    | (show CallK _ _ 34 _ _ _ _; refine CallK.lendS [0] (c_rnumX b s ⟨.int .i64 0, .int .i64 0, .raw (.slice none 0 0), .int .i64 0, .str [], .int .i64 0, .int .i64 0, .raw (.slice none 0 0), .int .i64 0, .raw (.slice none 0 0)⟩ 3 e .more hn (by omega) (by omega)) ⟨rfl, trivial⟩ rfl rfl rfl (by repeat' (first | exact trivial | exact .head _ | apply List.Mem.tail | apply And.intro)) (fun r0 hr0 => ⟨rfl, Nx.go ?_⟩))
    | (show CallK _ _ 34 _ _ _ _; refine CallK.lendS [0] (c_rnumX b s ⟨.int .i64 0, .int .i64 0, .raw (.slice none 0 0), .int .i64 0, .str [], .int .i64 0, .int .i64 0, .raw (.slice none 0 0), .int .i64 0, .raw (.slice none 0 0)⟩ 3 e .bad hn (by omega) (by omega)) ⟨rfl, trivial⟩ rfl rfl rfl (by repeat' (first | exact trivial | exact .head _ | apply List.Mem.tail | apply And.intro)) (fun r0 hr0 => ⟨rfl, Nx.go ?_⟩))
    | (show CallK _ _ 34 _ _ _ _; refine CallK.lendS [0] (c_rnumV b s ⟨.int .i64 0, .int .i64 0, .raw (.slice none 0 0), .int .i64 0, .str [], .int .i64 0, .int .i64 0, .raw (.slice none 0 0), .int .i64 0, .raw (.slice none 0 0)⟩ 3 e n r _ hn hk (by omega) (by omega)) ⟨rfl, trivial⟩ rfl rfl rfl (by repeat' (first | exact trivial | exact .head _ | apply List.Mem.tail | apply And.intro)) (fun r0 hr0 => ⟨rfl, Nx.go ?_⟩))
    | (show CallK _ _ _ _ _ _ _; refine CallK.rv c_bot1 (by repeat' (first | exact trivial | exact .head _ | apply List.Mem.tail | apply And.intro)) (Nx.go ?_))
    | (show CallK _ _ _ _ _ _ _; refine CallK.rv c_bot2 (by repeat' (first | exact trivial | exact .head _ | apply List.Mem.tail | apply And.intro)) (Nx.go ?_))
    | (show CallK _ _ _ _ _ _ _; refine CallK.rv c_bot3 (by repeat' (first | exact trivial | exact .head _ | apply List.Mem.tail | apply And.intro)) (Nx.go ?_))
    | (show CallK _ _ 34 _ _ _ _; refine CallK.lendS [0] (c_rnumX b r0 ⟨.int .i64 0, .int .i64 0, .raw (.slice none 0 0), .int .i64 0, .str [], .int .i64 0, .int .i64 0, .raw (.slice none 0 0), .int .i64 0, .raw (.slice none 0 0)⟩ _ e .more hm (by have := numR_len hn; omega) (by omega)) ⟨rfl, trivial⟩ rfl rfl rfl (by repeat' (first | exact trivial | exact .head _ | apply List.Mem.tail | apply And.intro)) (fun r1 hr1 => ⟨rfl, Nx.go ?_⟩))
    | (show CallK _ _ 34 _ _ _ _; refine CallK.lendS [0] (c_rnumX b r0 ⟨.int .i64 0, .int .i64 0, .raw (.slice none 0 0), .int .i64 0, .str [], .int .i64 0, .int .i64 0, .raw (.slice none 0 0), .int .i64 0, .raw (.slice none 0 0)⟩ _ e .bad hm (by have := numR_len hn; omega) (by omega)) ⟨rfl, trivial⟩ rfl rfl rfl (by repeat' (first | exact trivial | exact .head _ | apply List.Mem.tail | apply And.intro)) (fun r1 hr1 => ⟨rfl, Nx.go ?_⟩))
    | (show CallK _ _ 34 _ _ _ _; refine CallK.lendS [0] (c_rnumV b r0 ⟨.int .i64 0, .int .i64 0, .raw (.slice none 0 0), .int .i64 0, .str [], .int .i64 0, .int .i64 0, .raw (.slice none 0 0), .int .i64 0, .raw (.slice none 0 0)⟩ _ e g r2 0 hm hg0 (by have := numR_len hn; omega) (by omega)) ⟨rfl, trivial⟩ rfl rfl rfl (by repeat' (first | exact trivial | exact .head _ | apply List.Mem.tail | apply And.intro)) (fun r1 hr1 => ⟨rfl, Nx.go ?_⟩))
    | (show CallK _ _ 34 _ _ _ _; refine CallK.lendS [0] (c_rnumV b r0 ⟨.int .i64 0, .int .i64 0, .raw (.slice none 0 0), .int .i64 0, .str [], .int .i64 0, .int .i64 0, .raw (.slice none 0 0), .int .i64 0, .raw (.slice none 0 0)⟩ _ e g r2 _ hm rfl (by have := numR_len hn; omega) (by omega)) ⟨rfl, trivial⟩ rfl rfl rfl (by repeat' (first | exact trivial | exact .head _ | apply List.Mem.tail | apply And.intro)) (fun r1 hr1 => ⟨rfl, Nx.go ?_⟩))
    | (show CallK _ _ 31 _ _ _ _; refine CallK.lendS [0] (c_dis0M b r1 ⟨.int .i64 1, .int .i64 0, .raw (.slice none 0 0), .int .i64 0, .str [], .int .i64 0, .int .i64 0, .raw (.slice none 0 0), .int .i64 0, .raw (.slice none 0 0)⟩ e hl (by have := numR_len hn; have := numR_len hm; omega)) ⟨rfl, trivial⟩ rfl rfl rfl (by repeat' (first | exact trivial | exact .head _ | apply List.Mem.tail | apply And.intro)) (fun z1 hz1 => ⟨rfl, Nx.go ?_⟩))
    | (show CallK _ _ 31 _ _ _ _; refine CallK.lendS [0] (c_dis0B b r1 ⟨.int .i64 1, .int .i64 0, .raw (.slice none 0 0), .int .i64 0, .str [], .int .i64 0, .int .i64 0, .raw (.slice none 0 0), .int .i64 0, .raw (.slice none 0 0)⟩ e hl (by have := numR_len hn; have := numR_len hm; omega)) ⟨rfl, trivial⟩ rfl rfl rfl (by repeat' (first | exact trivial | exact .head _ | apply List.Mem.tail | apply And.intro)) (fun z1 hz1 => ⟨rfl, Nx.go ?_⟩))
    | (show CallK _ _ 31 _ _ _ _; refine CallK.lendS [0] (c_dis0 b r1 ⟨.int .i64 1, .int .i64 0, .raw (.slice none 0 0), .int .i64 0, .str [], .int .i64 0, .int .i64 0, .raw (.slice none 0 0), .int .i64 0, .raw (.slice none 0 0)⟩ e l q hl (by have := (cntR_len hl (by decide)).1; omega) (by have := numR_len hn; have := numR_len hm; omega)) ⟨rfl, trivial⟩ rfl rfl rfl (by repeat' (first | exact trivial | exact .head _ | apply List.Mem.tail | apply And.intro)) (fun y hy => ⟨rfl, Nx.go ?_⟩))
    | (show CallK _ _ 31 _ _ _ _; refine CallK.lendS [0] (c_disM b r1 ⟨.int .i64 1, .int .i64 (g.toNat : Int), .raw (.slice none 0 0), .int .i64 0, .str [], .int .i64 0, .int .i64 0, .raw (.slice none 0 0), .int .i64 0, .raw (.slice none 0 0)⟩ (g.toNat : Int) e (by have := numR_le hm (by decide); omega) (by have := numR_len hn; have := numR_len hm; omega) hl) ⟨rfl, trivial⟩ rfl rfl rfl (by repeat' (first | exact trivial | exact .head _ | apply List.Mem.tail | apply And.intro)) (fun z1 hz1 => ⟨rfl, Nx.go ?_⟩))
    | (show CallK _ _ 31 _ _ _ _; refine CallK.lendS [0] (c_disO b r1 ⟨.int .i64 1, .int .i64 (g.toNat : Int), .raw (.slice none 0 0), .int .i64 0, .str [], .int .i64 0, .int .i64 0, .raw (.slice none 0 0), .int .i64 0, .raw (.slice none 0 0)⟩ (g.toNat : Int) e (by have := numR_le hm (by decide); omega) (by have := numR_len hn; have := numR_len hm; omega) hl) ⟨rfl, trivial⟩ rfl rfl rfl (by repeat' (first | exact trivial | exact .head _ | apply List.Mem.tail | apply And.intro)) (fun z1 hz1 => ⟨rfl, Nx.go ?_⟩))
    | (show CallK _ _ 32 _ _ _ _; refine CallK.lendS [0] (c_cntM b r1 ⟨.int .i64 2, .int .i64 (g.toNat : Int), .raw (.slice none 0 0), .int .i64 0, .str [], .int .i64 0, .int .i64 0, .raw (.slice none 0 0), .int .i64 0, .raw (.slice none 0 0)⟩ (g.toNat : Int) e (by have := numR_le hm (by decide); omega) hl (by have := numR_len hn; have := numR_len hm; omega)) ⟨rfl, trivial⟩ rfl rfl rfl (by repeat' (first | exact trivial | exact .head _ | apply List.Mem.tail | apply And.intro)) (fun z1 hz1 => ⟨rfl, Nx.go ?_⟩))
    | (show CallK _ _ 32 _ _ _ _; refine CallK.lendS [0] (c_cntB b r1 ⟨.int .i64 2, .int .i64 (g.toNat : Int), .raw (.slice none 0 0), .int .i64 0, .str [], .int .i64 0, .int .i64 0, .raw (.slice none 0 0), .int .i64 0, .raw (.slice none 0 0)⟩ (g.toNat : Int) e (by have := numR_le hm (by decide); omega) hl (by have := numR_len hn; have := numR_len hm; omega)) ⟨rfl, trivial⟩ rfl rfl rfl (by repeat' (first | exact trivial | exact .head _ | apply List.Mem.tail | apply And.intro)) (fun z1 hz1 => ⟨rfl, Nx.go ?_⟩))
    | (show CallK _ _ 32 _ _ _ _; refine CallK.lendS [0] (c_cntO b r1 ⟨.int .i64 2, .int .i64 (g.toNat : Int), .raw (.slice none 0 0), .int .i64 0, .str [], .int .i64 0, .int .i64 0, .raw (.slice none 0 0), .int .i64 0, .raw (.slice none 0 0)⟩ (g.toNat : Int) e l q (by have := numR_le hm (by decide); omega) hl (by have := numR_len hn; have := numR_len hm; omega)) ⟨rfl, trivial⟩ rfl rfl rfl (by repeat' (first | exact trivial | exact .head _ | apply List.Mem.tail | apply And.intro)) (fun z1 hz1 => ⟨rfl, Nx.go ?_⟩))
    | (show CallK _ _ 33 _ _ _ _; refine CallK.lendS [0] (c_valM b r1 ⟨.int .i64 3, .int .i64 (g.toNat : Int), .raw (.slice none 0 0), .int .i64 0, .str [], .int .i64 0, .int .i64 0, .raw (.slice none 0 0), .int .i64 0, .raw (.slice none 0 0)⟩ (g.toNat : Int) e (by have := numR_le hm (by decide); omega) hl (by have := numR_len hn; have := numR_len hm; omega)) ⟨rfl, trivial⟩ rfl rfl rfl (by repeat' (first | exact trivial | exact .head _ | apply List.Mem.tail | apply And.intro)) (fun z1 hz1 => ⟨rfl, Nx.go ?_⟩))
    | (show CallK _ _ 33 _ _ _ _; refine CallK.lendS [0] (c_valB b r1 ⟨.int .i64 3, .int .i64 (g.toNat : Int), .raw (.slice none 0 0), .int .i64 0, .str [], .int .i64 0, .int .i64 0, .raw (.slice none 0 0), .int .i64 0, .raw (.slice none 0 0)⟩ (g.toNat : Int) e (by have := numR_le hm (by decide); omega) hl (by have := numR_len hn; have := numR_len hm; omega)) ⟨rfl, trivial⟩ rfl rfl rfl (by repeat' (first | exact trivial | exact .head _ | apply List.Mem.tail | apply And.intro)) (fun z1 hz1 => ⟨rfl, Nx.go ?_⟩))
    | (show CallK _ _ 33 _ _ _ _; refine CallK.lendS [0] (c_val b r1 ⟨.int .i64 3, .int .i64 (g.toNat : Int), .raw (.slice none 0 0), .int .i64 0, .str [], .int .i64 0, .int .i64 0, .raw (.slice none 0 0), .int .i64 0, .raw (.slice none 0 0)⟩ (g.toNat : Int) e l q (by have := numR_le hm (by decide); omega) hl (by have := (cntR_len hl (by decide)).1; omega) (by have := numR_len hn; have := numR_len hm; omega)) ⟨rfl, trivial⟩ rfl rfl rfl (by repeat' (first | exact trivial | exact .head _ | apply List.Mem.tail | apply And.intro)) (fun y hy => ⟨rfl, Nx.go ?_⟩))
    | (show CallK _ _ 34 [_, .int .u64 3] [(b, .cells [.str s, _, _, _, _, _, _, _, _, _, _] _), _] _ _; rcases hn : numR 3 s with _ | _ | ⟨n, r⟩; rotate_left 2; rcases num3 (numR_le hn (by decide)) with hk | hk | hk | hk)
    | (show CallK _ _ 34 _ _ _ _; subst hr0; have hk1 : (n.toNat : Int) = 1 := hk; rcases hm : numR 4 r0 with _ | _ | ⟨g, r2⟩; rotate_left 2; by_cases hg0 : (g.toNat : Int) = 0)
    | (show CallK _ _ 34 _ _ _ _; subst hr0; rcases hm : numR 3 r0 with _ | _ | ⟨g, r2⟩)
    | (show CallK _ _ 31 _ _ _ _; subst hr1; have h9 : (g.toNat : Int) = 0 := hg0; rcases hl : cntR 64 1 r1 with _ | _ | ⟨l, q⟩)
    | (show CallK _ _ 31 _ _ _ _; subst hr1; have h9 : ¬ (g.toNat : Int) = 0 := hg0; by_cases hl : (r1.length : Int) < ((2 ^ (8 - (g.toNat : Int)).toNat : Nat) : Int))
    | (show CallK _ _ 32 _ _ _ _; subst hr1; rcases hl : listR (2 * (32 / 2 ^ g.toNat)) r1 with _ | _ | ⟨l, q⟩)
    | (show CallK _ _ 33 _ _ _ _; subst hr1; rcases hl : cntR 1000 2 r1 with _ | _ | ⟨l, q⟩)
    | (show Post _ _ _ _ _; have hr : skR s = .more := skR_m hn; exact Rs.post ([], sk0) (by rw [hr]; rfl) (by rw [hr]; exact ((Imp.pubCells 0 rfl).trans (Imp.to 1 rfl (by repeat' (first | exact trivial | exact .head _ | apply List.Mem.tail | apply And.intro))))) (fun x q h => by rw [hr] at h; cases h))
    | (show Post _ _ _ _ _; have hr : skR s = .bad := skR_b hn; exact Rs.post ([], sk0) (by rw [hr]; rfl) (by rw [hr]; exact ((Imp.pubCells 0 rfl).trans (Imp.to 1 rfl (by repeat' (first | exact trivial | exact .head _ | apply List.Mem.tail | apply And.intro))))) (fun x q h => by rw [hr] at h; cases h))
    | (show Post _ _ _ _ _; have hr : skR s = .bad := (skR_0 hn hk); exact Rs.post ([], sk0) (by rw [hr]; rfl) (by rw [hr]; exact ((Imp.pubCells 0 rfl).trans (Imp.to 1 rfl (by repeat' (first | exact trivial | exact .head _ | apply List.Mem.tail | apply And.intro))))) (fun x q h => by rw [hr] at h; cases h))
    | (show Post _ _ _ _ _; have hr : skR s = .more := (skR_lv hn hk (by decide) hm); exact Rs.post ([], sk0) (by rw [hr]; rfl) (by rw [hr]; exact ((Imp.pubCells 0 rfl).trans (Imp.to 1 rfl (by repeat' (first | exact trivial | exact .head _ | apply List.Mem.tail | apply And.intro))))) (fun x q h => by rw [hr] at h; cases h))
    | (show Post _ _ _ _ _; have hr : skR s = .bad := (skR_lv hn hk (by decide) hm); exact Rs.post ([], sk0) (by rw [hr]; rfl) (by rw [hr]; exact ((Imp.pubCells 0 rfl).trans (Imp.to 1 rfl (by repeat' (first | exact trivial | exact .head _ | apply List.Mem.tail | apply And.intro))))) (fun x q h => by rw [hr] at h; cases h))
    | (show Post _ _ _ _ _; have hr : skR s = .more := ((skR_lv hn hk (by decide) hm).trans (tk1 hg0 hl)); exact Rs.post ([], sk0) (by rw [hr]; rfl) (by rw [hr]; exact ((Imp.pubCells 0 rfl).trans (Imp.to 1 rfl (by repeat' (first | exact trivial | exact .head _ | apply List.Mem.tail | apply And.intro))))) (fun x q h => by rw [hr] at h; cases h))
    | (show Post _ _ _ _ _; have hr : skR s = .more := ((skR_lv hn hk (by decide) hm).trans (tk2 (g := (g.toNat : Int)) hl)); exact Rs.post ([], sk0) (by rw [hr]; rfl) (by rw [hr]; exact ((Imp.pubCells 0 rfl).trans (Imp.to 1 rfl (by repeat' (first | exact trivial | exact .head _ | apply List.Mem.tail | apply And.intro))))) (fun x q h => by rw [hr] at h; cases h))
    | (show Post _ _ _ _ _; have hr : skR s = .more := ((skR_lv hn hk (by decide) hm).trans (tk3 hl)); exact Rs.post ([], sk0) (by rw [hr]; rfl) (by rw [hr]; exact ((Imp.pubCells 0 rfl).trans (Imp.to 1 rfl (by repeat' (first | exact trivial | exact .head _ | apply List.Mem.tail | apply And.intro))))) (fun x q h => by rw [hr] at h; cases h))
    | (show Post _ _ _ _ _; have hr : skR s = .bad := ((skR_lv hn hk (by decide) hm).trans (tk1 hg0 hl)); exact Rs.post ([], sk0) (by rw [hr]; rfl) (by rw [hr]; exact ((Imp.pubCells 0 rfl).trans (Imp.to 1 rfl (by repeat' (first | exact trivial | exact .head _ | apply List.Mem.tail | apply And.intro))))) (fun x q h => by rw [hr] at h; cases h))
    | (show Post _ _ _ _ _; have hr : skR s = .bad := ((skR_lv hn hk (by decide) hm).trans (tk2 (g := (g.toNat : Int)) hl)); exact Rs.post ([], sk0) (by rw [hr]; rfl) (by rw [hr]; exact ((Imp.pubCells 0 rfl).trans (Imp.to 1 rfl (by repeat' (first | exact trivial | exact .head _ | apply List.Mem.tail | apply And.intro))))) (fun x q h => by rw [hr] at h; cases h))
    | (show Post _ _ _ _ _; have hr : skR s = .bad := ((skR_lv hn hk (by decide) hm).trans (tk3 hl)); exact Rs.post ([], sk0) (by rw [hr]; rfl) (by rw [hr]; exact ((Imp.pubCells 0 rfl).trans (Imp.to 1 rfl (by repeat' (first | exact trivial | exact .head _ | apply List.Mem.tail | apply And.intro))))) (fun x q h => by rw [hr] at h; cases h))
    | (show Post _ _ _ _ _; have hr : skR s = .more := ((skR_lv hn hk (by decide) hm).trans (tk1m hg0 hl)); exact Rs.post ([], sk0) (by rw [hr]; rfl) (by rw [hr]; exact ((Imp.pubCells 0 rfl).trans (Imp.to 1 rfl (by repeat' (first | exact trivial | exact .head _ | apply List.Mem.tail | apply And.intro))))) (fun x q h => by rw [hr] at h; cases h))
    | (show Post _ _ _ _ _; have hr := (skR_lv hn hk (by decide) hm).trans (tk1 hg0 hl); refine Rs.post (q, ⟨1, 0, y, 0, [], 0, 0, nilU, 0, nilB⟩) (by rw [hr]; rfl) (by rw [hr]; exact (Imp.nilF encU 1).trans ((Imp.nilF encBin 2).trans ((Imp.pure (p := ([] : List UInt8).length ≤ 9223372036854775807) (by decide)).trans (((Imp.to 1 rfl (by repeat' (first | exact trivial | exact .head _ | apply List.Mem.tail | apply And.intro))).trans (Imp.recell 0 rfl rfl)))))) (fun x q h => by rw [hr] at h; cases h; exact ⟨rfl, by rw [SkV.sk, hy]⟩))
    | (show Post _ _ _ _ _; have hr := (skR_lv hn hk (by decide) hm).trans (tk1o hg0 hl); refine Rs.post (r1.drop (2 ^ (8 - (g.toNat : Int)).toNat), ⟨1, g.toNat, nilU, 8 - g.toNat, r1.take (2 ^ (8 - (g.toNat : Int)).toNat), 0, 0, nilU, 0, nilB⟩) (by rw [hr]; rfl) (by rw [hr]; exact (Imp.nilF encU 1).trans ((Imp.nilF encBin 2).trans ((Imp.pure (p := (r1.take (2 ^ (8 - (g.toNat : Int)).toNat) : List UInt8).length ≤ 9223372036854775807) (by have := numR_len hn; have := numR_len hm; rw [List.length_take]; omega)).trans (((Imp.to 1 rfl (by repeat' (first | exact trivial | exact .head _ | apply List.Mem.tail | apply And.intro))).trans (Imp.recell 0 rfl rfl)))))) (fun x q h => by rw [hr] at h; cases h; exact ⟨rfl, rfl⟩))
    | (show Post _ _ _ _ _; have hr := (skR_lv hn hk (by decide) hm).trans (tk2 (g := (g.toNat : Int)) hl); refine Rs.post (z1.1, ⟨2, g.toNat, nilU, 0, [], 2, Int.fdiv 32 (2 ^ min (g.toNat : Int).toNat IntKind.i64.bits), z1.2, 0, nilB⟩) (by rw [hr]; rfl) (by rw [hr]; exact (Imp.nilF encU 1).trans ((Imp.nilF encBin 2).trans ((Imp.pure (p := ([] : List UInt8).length ≤ 9223372036854775807) (by decide)).trans (((Imp.to 1 rfl (by repeat' (first | exact trivial | exact .head _ | apply List.Mem.tail | apply And.intro))).trans (Imp.recell 0 rfl rfl)))))) (fun x q h => by rw [hr] at h; cases h; obtain ⟨h1, h2⟩ := hz1; exact ⟨h1, by rw [SkV.sk, h2, fdG (by have := numR_le hm (by decide); omega)]⟩))
    | (show Post _ _ _ _ _; have hr := (skR_lv hn hk (by decide) hm).trans (tk3 hl); refine Rs.post (q, ⟨3, g.toNat, nilU, 0, [], 0, 0, nilU, 3 - g.toNat, y⟩) (by rw [hr]; rfl) (by rw [hr]; exact (Imp.nilF encU 1).trans ((Imp.pure (p := ([] : List UInt8).length ≤ 9223372036854775807) (by decide)).trans (((Imp.to 1 rfl (by repeat' (first | exact trivial | exact .head _ | apply List.Mem.tail | apply And.intro))).trans (Imp.recell 0 rfl rfl))))) (fun x q h => by rw [hr] at h; cases h; exact ⟨rfl, by rw [SkV.sk, hy]⟩))
    | (show RdB _ _ _; refine RdB.mk' (by repeat (first | exact .head _ | apply List.Mem.tail)) (Nx.go ?_))
    | (refine AR.i64 (by omega) ?_; conv => whnf)
    | (refine AR.u64 (by omega) ?_; conv => whnf)
    | (refine AR.u8 (by omega) ?_; conv => whnf)
    | (refine Ob.mk (by omega) ?_; conv => whnf)
    | (refine BR.mk (fun h => ?_) (fun h => ?_) <;> (first | rw [Bool.not_eq_true'] at h | rw [Bool.not_eq_false'] at h | skip) <;> (try rw [h]) <;> (first | replace h := of_decide_eq_true h | replace h := of_decide_eq_false h | replace h := eq_of_beq h | replace h := bne_iff_ne.1 h | replace h := beq_eq_false_iff_ne.1 h | replace h := bne_eq_false_iff_eq.1 h | skip) <;> conv => whnf)
end Go.Proofs.YtpdpajafaifcjaaGreatDoor

/- clone -/
namespace Go.Proofs.YtpdpajafaifcjaaGreatDoor
open Go.Proofs.YtpdpajafaifcjaaGreatDoor.W
set_option maxRecDepth 100000
set_option linter.unusedVariables false
theorem c_cloneU (x : Sli UInt64) (hx : x.l.length ≤ 1000000) : Ct Tryz.prog 54 [] [x.sv] [x.f encU 1] (Rs (fun y : Sli UInt64 => y.sv) (fun _ => []) (fun y => [y.f encU 1]) (fun y => y.l = x.l)) := by
  refine Ct.pure (p := x.p = none → x.l = []) (List.Mem.head _) (fun A w h hp => by have h1 := h.2.2.isNil hp; have h2 := h.2.2.cap; exact List.eq_nil_of_length_eq_zero (by omega)) fun hnil => ?_
  refine Ct.post (Ct.of Tryz.func54 rfl (n := 8) rfl rfl rfl ?_)
  conv => whnf
  repeat' first
    | (show BinS _ _ _ _ _ _ (.raw (.slice none 0 0)) _; refine BinS.slNil rfl ?_; conv => whnf)
    | (show SemO _ _ (.buildSlice _ _ #[]) _ _ _ _ _; refine SemO.lit0 encU ?_; (conv => whnf); intro p0; conv => whnf)
    | (show SemO _ _ (.call ⟨.builtin .append, _, _⟩) _ _ _ _ _; refine SemO.appendNew false ?_; (conv => whnf); show AppN _ _ _ _ _ _ _ _ _ _ _ _ _; refine ⟨⟨_, _, [], x.l, .fact (by repeat (first | exact .head _ | apply List.Mem.tail)), .fact (by repeat (first | exact .head _ | apply List.Mem.tail)), app_le (N := 1048576) ?_ (of_decide_eq_true (by kernel_rfl)), ?_, rfl, fun pv cv hcv => ?_⟩⟩ <;> first | (show (0 : Nat) + x.l.length ≤ _; omega) | (have e0 : 0 + x.l.length = x.l.length := Nat.zero_add _; rw [e0] at hcv; rw [e0]; conv => whnf))
    | (refine Ob.mk rfl ?_; conv => whnf)
    | (refine Nx.mk ?_; conv => whnf)
    | (refine BR.yes ?_; conv => whnf)
    | (refine BR.no ?_; conv => whnf)
    | (intro bk; conv => whnf)
    | (show Post _ _ _ _ _; have e := hnil (Option.isNone_iff_eq_none.1 h); exact Rs.post ⟨[], none, 0⟩ rfl ((Imp.nilF encU 1).trans (Imp.fs (by repeat' (first | exact trivial | exact .head _ | apply List.Mem.tail | apply And.intro)))) e.symm)
    | (show Post _ _ _ _ _; exact Rs.post ⟨x.l, pv, cv⟩ rfl (Imp.fs (by repeat' (first | exact trivial | exact .head _ | apply List.Mem.tail | apply And.intro))) rfl)
    | (refine AR.i64 (by omega) ?_; conv => whnf)
    | (refine AR.u64 (by omega) ?_; conv => whnf)
    | (refine AR.u8 (by omega) ?_; conv => whnf)
    | (refine Ob.mk (by omega) ?_; conv => whnf)
    | (refine BR.mk (fun h => ?_) (fun h => ?_) <;> (first | rw [Bool.not_eq_true'] at h | rw [Bool.not_eq_false'] at h | skip) <;> (try rw [h]) <;> (first | replace h := of_decide_eq_true h | replace h := of_decide_eq_false h | replace h := eq_of_beq h | replace h := bne_iff_ne.1 h | replace h := beq_eq_false_iff_ne.1 h | replace h := bne_eq_false_iff_eq.1 h | skip) <;> conv => whnf)

theorem c_cloneB (x : Sli Bin) (hx : x.l.length ≤ 1000000) : Ct Tryz.prog 55 [] [x.sv] [x.f encBin 2] (Rs (fun y : Sli Bin => y.sv) (fun _ => []) (fun y => [y.f encBin 2]) (fun y => y.l = x.l)) := by
  refine Ct.pure (p := x.p = none → x.l = []) (List.Mem.head _) (fun A w h hp => by have h1 := h.2.2.isNil hp; have h2 := h.2.2.cap; exact List.eq_nil_of_length_eq_zero (by omega)) fun hnil => ?_
  refine Ct.post (Ct.of Tryz.func55 rfl (n := 8) rfl rfl rfl ?_)
  conv => whnf
  repeat' first
    | (show BinS _ _ _ _ _ _ (.raw (.slice none 0 0)) _; refine BinS.slNil rfl ?_; conv => whnf)
    | (show SemO _ _ (.buildSlice _ _ #[]) _ _ _ _ _; refine SemO.lit0 encBin ?_; (conv => whnf); intro p0; conv => whnf)
    | (show SemO _ _ (.call ⟨.builtin .append, _, _⟩) _ _ _ _ _; refine SemO.appendNew false ?_; (conv => whnf); show AppN _ _ _ _ _ _ _ _ _ _ _ _ _; refine ⟨⟨_, _, [], x.l, .fact (by repeat (first | exact .head _ | apply List.Mem.tail)), .fact (by repeat (first | exact .head _ | apply List.Mem.tail)), app_le (N := 1048576) ?_ (of_decide_eq_true (by kernel_rfl)), ?_, rfl, fun pv cv hcv => ?_⟩⟩ <;> first | (show (0 : Nat) + x.l.length ≤ _; omega) | (have e0 : 0 + x.l.length = x.l.length := Nat.zero_add _; rw [e0] at hcv; rw [e0]; conv => whnf))
    | (refine Ob.mk rfl ?_; conv => whnf)
    | (refine Nx.mk ?_; conv => whnf)
    | (refine BR.yes ?_; conv => whnf)
    | (refine BR.no ?_; conv => whnf)
    | (intro bk; conv => whnf)
    | (show Post _ _ _ _ _; have e := hnil (Option.isNone_iff_eq_none.1 h); exact Rs.post ⟨[], none, 0⟩ rfl ((Imp.nilF encBin 2).trans (Imp.fs (by repeat' (first | exact trivial | exact .head _ | apply List.Mem.tail | apply And.intro)))) e.symm)
    | (show Post _ _ _ _ _; exact Rs.post ⟨x.l, pv, cv⟩ rfl (Imp.fs (by repeat' (first | exact trivial | exact .head _ | apply List.Mem.tail | apply And.intro))) rfl)
    | (refine AR.i64 (by omega) ?_; conv => whnf)
    | (refine AR.u64 (by omega) ?_; conv => whnf)
    | (refine AR.u8 (by omega) ?_; conv => whnf)
    | (refine Ob.mk (by omega) ?_; conv => whnf)
    | (refine BR.mk (fun h => ?_) (fun h => ?_) <;> (first | rw [Bool.not_eq_true'] at h | rw [Bool.not_eq_false'] at h | skip) <;> (try rw [h]) <;> (first | replace h := of_decide_eq_true h | replace h := of_decide_eq_false h | replace h := eq_of_beq h | replace h := bne_iff_ne.1 h | replace h := beq_eq_false_iff_ne.1 h | replace h := bne_eq_false_iff_eq.1 h | skip) <;> conv => whnf)
end Go.Proofs.YtpdpajafaifcjaaGreatDoor

/- work -/
namespace Go.Proofs.YtpdpajafaifcjaaGreatDoor
open Go.Proofs.YtpdpajafaifcjaaGreatDoor.W
set_option maxRecDepth 100000
set_option linter.unusedVariables false
theorem c_wset (h0 : SV) (k0 l0 : Int) (x : SkV) (h : x.level = 0) : Ct Tryz.prog 39 [] [.agg [h0, .int .i64 k0, .int .i64 l0], x.sv] x.fs (Rv (.tup [.iface 116 (.agg [x.e.sv]), .bool (exactRight x.e.l)])) := by
  refine Ct.of Tryz.func39 rfl (n := 32) rfl rfl rfl ?_
  conv => whnf
  repeat' first
    | (show BR (decide (x.level = 0)) _ _; refine BR.yesK (decide_eq_true h) ?_; conv => whnf)
    | (refine Ob.mk rfl ?_; conv => whnf)
    | (refine Nx.mk ?_; conv => whnf)
    | (refine BR.yes ?_; conv => whnf)
    | (refine BR.no ?_; conv => whnf)
    | (intro bk; conv => whnf)
    | (show CallK _ _ 50 _ _ _ _; refine CallK.rv (c_exactRight x.e) (by repeat' (first | exact trivial | exact .head _ | apply List.Mem.tail | apply And.intro)) (Nx.go ?_))
    | (refine SemC.draw 2 [] [.t 0, .t 1, .t 2, .t 3, .t 4, .t 5, .s 6, .t 7, .t 8] (by kernel_rfl) (by kernel_rfl) ?_; conv => whnf)
    | (refine SemC.draw 3 [] [.t 0, .t 1, .t 2, .t 3, .t 4, .t 5, .s 6, .t 7, .t 8, .t 9, .t 10, .t 11, .t 12, .t 13, .t 14, .t 15, .t 16, .t 17] (by kernel_rfl) (by kernel_rfl) ?_; conv => whnf)
    | (show RdB _ _ _; refine RdB.mk' (by repeat (first | exact .head _ | apply List.Mem.tail)) (Nx.go ?_))
    | (refine AR.i64 (by omega) ?_; conv => whnf)
    | (refine AR.u64 (by omega) ?_; conv => whnf)
    | (refine AR.u8 (by omega) ?_; conv => whnf)
    | (refine Ob.mk (by omega) ?_; conv => whnf)
    | (refine BR.mk (fun h => ?_) (fun h => ?_) <;> (first | rw [Bool.not_eq_true'] at h | rw [Bool.not_eq_false'] at h | skip) <;> (try rw [h]) <;> (first | replace h := of_decide_eq_true h | replace h := of_decide_eq_false h | replace h := eq_of_beq h | replace h := bne_iff_ne.1 h | replace h := beq_eq_false_iff_ne.1 h | replace h := bne_eq_false_iff_eq.1 h | skip) <;> conv => whnf)
  all_goals grind [resS]

theorem c_wreg (h0 : SV) (k0 l0 : Int) (x : SkV) (h : ¬ x.level = 0) (hl : 0 ≤ x.level ∧ x.level ≤ 10) (hr : x.regs.length ≤ 9223372036854775807) : Ct Tryz.prog 39 [] [.agg [h0, .int .i64 k0, .int .i64 l0], x.sv] x.fs (Rv (.tup [.iface 119 (.agg [.int .i64 x.bits, .str x.regs]), .bool (hllRight x.bits x.regs && decide (x.bits = 8 - x.level))])) := by
  refine Ct.of Tryz.func39 rfl (n := 32) rfl rfl rfl ?_
  conv => whnf
  repeat' first
    | (show BR (decide (x.level = 0)) _ _; refine BR.noK (decide_eq_false h) ?_; conv => whnf)
    | (refine Ob.mk rfl ?_; conv => whnf)
    | (refine Nx.mk ?_; conv => whnf)
    | (refine BR.yes ?_; conv => whnf)
    | (refine BR.no ?_; conv => whnf)
    | (intro bk; conv => whnf)
    | (show CallK _ _ 51 _ _ _ _; refine CallK.rv (c_hllRight x.bits x.regs hr) (by repeat' (first | exact trivial | exact .head _ | apply List.Mem.tail | apply And.intro)) (Nx.go ?_))
    | (refine SemC.draw 2 [] [.t 0, .t 1, .t 2, .t 3, .t 4, .t 5, .s 6, .t 7, .t 8] (by kernel_rfl) (by kernel_rfl) ?_; conv => whnf)
    | (refine SemC.draw 3 [] [.t 0, .t 1, .t 2, .t 3, .t 4, .t 5, .s 6, .t 7, .t 8, .t 9, .t 10, .t 11, .t 12, .t 13, .t 14, .t 15, .t 16, .t 17] (by kernel_rfl) (by kernel_rfl) ?_; conv => whnf)
    | (show RdB _ _ _; refine RdB.mk' (by repeat (first | exact .head _ | apply List.Mem.tail)) (Nx.go ?_))
    | (refine AR.i64 (by omega) ?_; conv => whnf)
    | (refine AR.u64 (by omega) ?_; conv => whnf)
    | (refine AR.u8 (by omega) ?_; conv => whnf)
    | (refine Ob.mk (by omega) ?_; conv => whnf)
    | (refine BR.mk (fun h => ?_) (fun h => ?_) <;> (first | rw [Bool.not_eq_true'] at h | rw [Bool.not_eq_false'] at h | skip) <;> (try rw [h]) <;> (first | replace h := of_decide_eq_true h | replace h := of_decide_eq_false h | replace h := eq_of_beq h | replace h := bne_iff_ne.1 h | replace h := beq_eq_false_iff_ne.1 h | replace h := bne_eq_false_iff_eq.1 h | skip) <;> conv => whnf)
  all_goals grind [resS]

theorem c_wcnt (h0 : SV) (k0 l0 : Int) (x : SkV) (hl : 0 ≤ x.level ∧ x.level ≤ 10) : Ct Tryz.prog 40 [] [.agg [h0, .int .i64 k0, .int .i64 l0], x.sv] x.fs (Rv (.tup [.iface 122 (.agg [.int .i64 x.rows, .int .i64 x.cols, x.c.sv]), .bool (cmsRight x.rows x.cols x.c.l && decide (x.rows = 2) && decide (x.cols = (Int.fdiv 32 (2 ^ min x.level.toNat IntKind.i64.bits))))])) := by
  refine Ct.of Tryz.func40 rfl (n := 28) rfl rfl rfl ?_
  conv => whnf
  repeat' first
    | (refine Ob.mk rfl ?_; conv => whnf)
    | (refine Nx.mk ?_; conv => whnf)
    | (refine BR.yes ?_; conv => whnf)
    | (refine BR.no ?_; conv => whnf)
    | (intro bk; conv => whnf)
    | (show CallK _ _ 52 _ _ _ _; refine CallK.rv (c_cmsRight x.rows x.cols x.c) (by repeat' (first | exact trivial | exact .head _ | apply List.Mem.tail | apply And.intro)) (Nx.go ?_))
    | (refine SemC.draw 1 [] [.t 0, .t 1, .t 2, .t 3, .t 4, .t 5, .s 6, .t 7, .t 8, .t 9, .t 10, .t 11, .t 12, .t 13, .t 14, .t 15, .t 16, .t 17, .t 18, .t 19, .t 20, .t 21, .t 22, .t 23] (by kernel_rfl) (by kernel_rfl) ?_; conv => whnf)
    | (show RdB _ _ _; refine RdB.mk' (by repeat (first | exact .head _ | apply List.Mem.tail)) (Nx.go ?_))
    | (refine AR.i64 (by omega) ?_; conv => whnf)
    | (refine AR.u64 (by omega) ?_; conv => whnf)
    | (refine AR.u8 (by omega) ?_; conv => whnf)
    | (refine Ob.mk (by omega) ?_; conv => whnf)
    | (refine BR.mk (fun h => ?_) (fun h => ?_) <;> (first | rw [Bool.not_eq_true'] at h | rw [Bool.not_eq_false'] at h | skip) <;> (try rw [h]) <;> (first | replace h := of_decide_eq_true h | replace h := of_decide_eq_false h | replace h := eq_of_beq h | replace h := bne_iff_ne.1 h | replace h := beq_eq_false_iff_ne.1 h | replace h := bne_eq_false_iff_eq.1 h | skip) <;> conv => whnf)
  all_goals grind [resS]

theorem c_wval (h0 : SV) (k0 l0 : Int) (x : SkV) (hl : 0 ≤ x.level ∧ x.level ≤ 10) (hg : x.g.l.length ≤ 1000000) : Ct Tryz.prog 41 [] [.agg [h0, .int .i64 k0, .int .i64 l0], x.sv] x.fs (Rv (.tup [.iface 125 (.agg [.int .i64 x.fine, x.g.sv]), .bool (histRight x.fine x.g.l && decide (x.fine = 3 - x.level))])) := by
  refine Ct.of Tryz.func41 rfl (n := 22) rfl rfl rfl ?_
  conv => whnf
  repeat' first
    | (refine Ob.mk rfl ?_; conv => whnf)
    | (refine Nx.mk ?_; conv => whnf)
    | (refine BR.yes ?_; conv => whnf)
    | (refine BR.no ?_; conv => whnf)
    | (intro bk; conv => whnf)
    | (show CallK _ _ 53 _ _ _ _; refine CallK.rv (c_histRight x.fine x.g) (by repeat' (first | exact trivial | exact .head _ | apply List.Mem.tail | apply And.intro)) (Nx.go ?_))
    | (refine SemC.draw 1 [] [.t 0, .t 1, .t 2, .t 3, .t 4, .t 5, .s 6, .t 7, .t 8, .t 9, .t 10, .t 11, .t 12, .t 13, .t 14, .t 15, .t 16, .t 17] (by kernel_rfl) (by kernel_rfl) ?_; conv => whnf)
    | (show RdB _ _ _; refine RdB.mk' (by repeat (first | exact .head _ | apply List.Mem.tail)) (Nx.go ?_))
    | (refine AR.i64 (by omega) ?_; conv => whnf)
    | (refine AR.u64 (by omega) ?_; conv => whnf)
    | (refine AR.u8 (by omega) ?_; conv => whnf)
    | (refine Ob.mk (by omega) ?_; conv => whnf)
    | (refine BR.mk (fun h => ?_) (fun h => ?_) <;> (first | rw [Bool.not_eq_true'] at h | rw [Bool.not_eq_false'] at h | skip) <;> (try rw [h]) <;> (first | replace h := of_decide_eq_true h | replace h := of_decide_eq_false h | replace h := eq_of_beq h | replace h := bne_iff_ne.1 h | replace h := beq_eq_false_iff_ne.1 h | replace h := bne_eq_false_iff_eq.1 h | skip) <;> conv => whnf)
  all_goals grind [resS]
end Go.Proofs.YtpdpajafaifcjaaGreatDoor

/- ends -/
namespace Go.Proofs.YtpdpajafaifcjaaGreatDoor
open Go.Proofs.YtpdpajafaifcjaaGreatDoor.W
set_option maxRecDepth 100000
set_option linter.unusedVariables false
theorem c_endS (x : Sli UInt64) (hx : x.l.length ≤ 1000000) (k l : Int) : Ct Tryz.prog 42 [] [.agg [.iface 116 (.agg [x.sv]), .int .i64 k, .int .i64 l]] [x.f encU 1] (Rs SkV.sv (fun _ => []) SkV.fs (fun z => z.sk = ⟨k, l, x.l, 0, [], 0, 0, [], 0, []⟩)) := by
  refine Ct.post (Ct.of Tryz.func42 rfl (n := 63) rfl rfl rfl ?_)
  conv => whnf
  repeat' first
    | (refine Ob.mk rfl ?_; conv => whnf)
    | (refine Nx.mk ?_; conv => whnf)
    | (refine BR.yes ?_; conv => whnf)
    | (refine BR.no ?_; conv => whnf)
    | (intro bk; conv => whnf)
    | (show CallK _ _ 54 _ _ _ _; refine CallK.rf (c_cloneU x hx) (by repeat' (first | exact trivial | exact .head _ | apply List.Mem.tail | apply And.intro)) (fun y hy => Nx.go ?_))
    | (show Post _ _ _ _ _; exact Rs.post ⟨k, l, y, 0, [], 0, 0, nilU, 0, nilB⟩ rfl ((Imp.nilF encU 1).trans ((Imp.nilF encBin 2).trans ((Imp.pure (p := ([] : List UInt8).length ≤ 9223372036854775807) (by decide)).trans ((Imp.fs (by repeat' (first | exact trivial | exact .head _ | apply List.Mem.tail | apply And.intro))))))) (by rw [SkV.sk, hy]))
    | (refine SemC.draw 8 [2] [.t 0, .t 1, .m 2, .m 3, .m 4, .m 5, .t 6, .w 7, .t 8, .l 9] (by kernel_rfl) (by kernel_rfl) ?_; conv => whnf)
    | (refine SemC.draw 11 [] [.t 0, .t 1, .t 2, .t 3, .t 4, .t 5, .t 6, .t 7, .t 8, .s 9, .t 10, .t 11, .l 12] (by kernel_rfl) (by kernel_rfl) ?_; conv => whnf)
    | (refine SemC.draw 14 [] [.t 0, .t 1, .t 2, .t 3, .t 4, .t 5, .s 6, .t 7, .t 8, .l 9] (by kernel_rfl) (by kernel_rfl) ?_; conv => whnf)
    | (show RdB _ _ _; refine RdB.mk' (by repeat (first | exact .head _ | apply List.Mem.tail)) (Nx.go ?_))
    | (refine AR.i64 (by omega) ?_; conv => whnf)
    | (refine AR.u64 (by omega) ?_; conv => whnf)
    | (refine AR.u8 (by omega) ?_; conv => whnf)
    | (refine Ob.mk (by omega) ?_; conv => whnf)
    | (refine BR.mk (fun h => ?_) (fun h => ?_) <;> (first | rw [Bool.not_eq_true'] at h | rw [Bool.not_eq_false'] at h | skip) <;> (try rw [h]) <;> (first | replace h := of_decide_eq_true h | replace h := of_decide_eq_false h | replace h := eq_of_beq h | replace h := bne_iff_ne.1 h | replace h := beq_eq_false_iff_ne.1 h | replace h := bne_eq_false_iff_eq.1 h | skip) <;> conv => whnf)

theorem c_endR (bi : Int) (rg : List UInt8) (hb : 0 ≤ bi ∧ bi ≤ 64) (hr : rg.length ≤ 9223372036854775807) (k l : Int) : Ct Tryz.prog 42 [] [.agg [.iface 119 (.agg [.int .i64 bi, .str rg]), .int .i64 k, .int .i64 l]] [] (Rs SkV.sv (fun _ => []) SkV.fs (fun z => z.sk = ⟨k, 8 - bi, [], bi, rg, 0, 0, [], 0, []⟩)) := by
  refine Ct.post (Ct.of Tryz.func42 rfl (n := 63) rfl rfl rfl ?_)
  conv => whnf
  repeat' first
    | (refine Ob.mk rfl ?_; conv => whnf)
    | (refine Nx.mk ?_; conv => whnf)
    | (refine BR.yes ?_; conv => whnf)
    | (refine BR.no ?_; conv => whnf)
    | (intro bk; conv => whnf)
    | (show Post _ _ _ _ _; exact Rs.post ⟨k, 8 - bi, nilU, bi, rg, 0, 0, nilU, 0, nilB⟩ rfl ((Imp.nilF encU 1).trans ((Imp.nilF encBin 2).trans ((Imp.pure (p := (rg : List UInt8).length ≤ 9223372036854775807) hr).trans ((Imp.fs (by repeat' (first | exact trivial | exact .head _ | apply List.Mem.tail | apply And.intro))))))) rfl)
    | (refine SemC.draw 8 [2] [.t 0, .t 1, .m 2, .m 3, .m 4, .m 5, .t 6, .w 7, .t 8, .l 9] (by kernel_rfl) (by kernel_rfl) ?_; conv => whnf)
    | (refine SemC.draw 11 [] [.t 0, .t 1, .t 2, .t 3, .t 4, .t 5, .t 6, .t 7, .t 8, .s 9, .t 10, .t 11, .l 12] (by kernel_rfl) (by kernel_rfl) ?_; conv => whnf)
    | (refine SemC.draw 14 [] [.t 0, .t 1, .t 2, .t 3, .t 4, .t 5, .s 6, .t 7, .t 8, .l 9] (by kernel_rfl) (by kernel_rfl) ?_; conv => whnf)
    | (show RdB _ _ _; refine RdB.mk' (by repeat (first | exact .head _ | apply List.Mem.tail)) (Nx.go ?_))
    | (refine AR.i64 (by omega) ?_; conv => whnf)
    | (refine AR.u64 (by omega) ?_; conv => whnf)
    | (refine AR.u8 (by omega) ?_; conv => whnf)
    | (refine Ob.mk (by omega) ?_; conv => whnf)
    | (refine BR.mk (fun h => ?_) (fun h => ?_) <;> (first | rw [Bool.not_eq_true'] at h | rw [Bool.not_eq_false'] at h | skip) <;> (try rw [h]) <;> (first | replace h := of_decide_eq_true h | replace h := of_decide_eq_false h | replace h := eq_of_beq h | replace h := bne_iff_ne.1 h | replace h := beq_eq_false_iff_ne.1 h | replace h := bne_eq_false_iff_eq.1 h | skip) <;> conv => whnf)

theorem c_endC (r c : Int) (x : Sli UInt64) (hx : x.l.length ≤ 1000000) (k l : Int) : Ct Tryz.prog 42 [] [.agg [.iface 122 (.agg [.int .i64 r, .int .i64 c, x.sv]), .int .i64 k, .int .i64 l]] [x.f encU 1] (Rs SkV.sv (fun _ => []) SkV.fs (fun z => z.sk = ⟨k, l, [], 0, [], r, c, x.l, 0, []⟩)) := by
  refine Ct.post (Ct.of Tryz.func42 rfl (n := 63) rfl rfl rfl ?_)
  conv => whnf
  repeat' first
    | (refine Ob.mk rfl ?_; conv => whnf)
    | (refine Nx.mk ?_; conv => whnf)
    | (refine BR.yes ?_; conv => whnf)
    | (refine BR.no ?_; conv => whnf)
    | (intro bk; conv => whnf)
    | (show CallK _ _ 54 _ _ _ _; refine CallK.rf (c_cloneU x hx) (by repeat' (first | exact trivial | exact .head _ | apply List.Mem.tail | apply And.intro)) (fun y hy => Nx.go ?_))
    | (show Post _ _ _ _ _; exact Rs.post ⟨k, l, nilU, 0, [], r, c, y, 0, nilB⟩ rfl ((Imp.nilF encU 1).trans ((Imp.nilF encBin 2).trans ((Imp.pure (p := ([] : List UInt8).length ≤ 9223372036854775807) (by decide)).trans ((Imp.fs (by repeat' (first | exact trivial | exact .head _ | apply List.Mem.tail | apply And.intro))))))) (by rw [SkV.sk, hy]))
    | (refine SemC.draw 8 [2] [.t 0, .t 1, .m 2, .m 3, .m 4, .m 5, .t 6, .w 7, .t 8, .l 9] (by kernel_rfl) (by kernel_rfl) ?_; conv => whnf)
    | (refine SemC.draw 11 [] [.t 0, .t 1, .t 2, .t 3, .t 4, .t 5, .t 6, .t 7, .t 8, .s 9, .t 10, .t 11, .l 12] (by kernel_rfl) (by kernel_rfl) ?_; conv => whnf)
    | (refine SemC.draw 14 [] [.t 0, .t 1, .t 2, .t 3, .t 4, .t 5, .s 6, .t 7, .t 8, .l 9] (by kernel_rfl) (by kernel_rfl) ?_; conv => whnf)
    | (show RdB _ _ _; refine RdB.mk' (by repeat (first | exact .head _ | apply List.Mem.tail)) (Nx.go ?_))
    | (refine AR.i64 (by omega) ?_; conv => whnf)
    | (refine AR.u64 (by omega) ?_; conv => whnf)
    | (refine AR.u8 (by omega) ?_; conv => whnf)
    | (refine Ob.mk (by omega) ?_; conv => whnf)
    | (refine BR.mk (fun h => ?_) (fun h => ?_) <;> (first | rw [Bool.not_eq_true'] at h | rw [Bool.not_eq_false'] at h | skip) <;> (try rw [h]) <;> (first | replace h := of_decide_eq_true h | replace h := of_decide_eq_false h | replace h := eq_of_beq h | replace h := bne_iff_ne.1 h | replace h := beq_eq_false_iff_ne.1 h | replace h := bne_eq_false_iff_eq.1 h | skip) <;> conv => whnf)

theorem c_endH (f : Int) (x : Sli Bin) (hx : x.l.length ≤ 1000000) (k l : Int) : Ct Tryz.prog 42 [] [.agg [.iface 125 (.agg [.int .i64 f, x.sv]), .int .i64 k, .int .i64 l]] [x.f encBin 2] (Rs SkV.sv (fun _ => []) SkV.fs (fun z => z.sk = ⟨k, l, [], 0, [], 0, 0, [], f, x.l⟩)) := by
  refine Ct.post (Ct.of Tryz.func42 rfl (n := 63) rfl rfl rfl ?_)
  conv => whnf
  repeat' first
    | (refine Ob.mk rfl ?_; conv => whnf)
    | (refine Nx.mk ?_; conv => whnf)
    | (refine BR.yes ?_; conv => whnf)
    | (refine BR.no ?_; conv => whnf)
    | (intro bk; conv => whnf)
    | (show CallK _ _ 55 _ _ _ _; refine CallK.rf (c_cloneB x hx) (by repeat' (first | exact trivial | exact .head _ | apply List.Mem.tail | apply And.intro)) (fun y hy => Nx.go ?_))
    | (show Post _ _ _ _ _; exact Rs.post ⟨k, l, nilU, 0, [], 0, 0, nilU, f, y⟩ rfl ((Imp.nilF encU 1).trans ((Imp.pure (p := ([] : List UInt8).length ≤ 9223372036854775807) (by decide)).trans ((Imp.fs (by repeat' (first | exact trivial | exact .head _ | apply List.Mem.tail | apply And.intro)))))) (by rw [SkV.sk, hy]))
    | (refine SemC.draw 8 [2] [.t 0, .t 1, .m 2, .m 3, .m 4, .m 5, .t 6, .w 7, .t 8, .l 9] (by kernel_rfl) (by kernel_rfl) ?_; conv => whnf)
    | (refine SemC.draw 11 [] [.t 0, .t 1, .t 2, .t 3, .t 4, .t 5, .t 6, .t 7, .t 8, .s 9, .t 10, .t 11, .l 12] (by kernel_rfl) (by kernel_rfl) ?_; conv => whnf)
    | (refine SemC.draw 14 [] [.t 0, .t 1, .t 2, .t 3, .t 4, .t 5, .s 6, .t 7, .t 8, .l 9] (by kernel_rfl) (by kernel_rfl) ?_; conv => whnf)
    | (show RdB _ _ _; refine RdB.mk' (by repeat (first | exact .head _ | apply List.Mem.tail)) (Nx.go ?_))
    | (refine AR.i64 (by omega) ?_; conv => whnf)
    | (refine AR.u64 (by omega) ?_; conv => whnf)
    | (refine AR.u8 (by omega) ?_; conv => whnf)
    | (refine Ob.mk (by omega) ?_; conv => whnf)
    | (refine BR.mk (fun h => ?_) (fun h => ?_) <;> (first | rw [Bool.not_eq_true'] at h | rw [Bool.not_eq_false'] at h | skip) <;> (try rw [h]) <;> (first | replace h := of_decide_eq_true h | replace h := of_decide_eq_false h | replace h := eq_of_beq h | replace h := bne_iff_ne.1 h | replace h := beq_eq_false_iff_ne.1 h | replace h := bne_eq_false_iff_eq.1 h | skip) <;> conv => whnf)
end Go.Proofs.YtpdpajafaifcjaaGreatDoor

/- start -/
namespace Go.Proofs.YtpdpajafaifcjaaGreatDoor
open Go.Proofs.YtpdpajafaifcjaaGreatDoor.W
set_option maxRecDepth 100000
set_option linter.unusedVariables false
/-- the sketch that is taken of what one holds -/
def endS (x : Sk) : Sk := if x.kind = 1 then (if x.level = 0 then ⟨x.kind, x.level, x.e, 0, [], 0, 0, [], 0, []⟩ else ⟨x.kind, 8 - x.bits, [], x.bits, x.regs, 0, 0, [], 0, []⟩)
  else if x.kind = 2 then ⟨x.kind, x.level, [], 0, [], x.rows, x.cols, x.c, 0, []⟩ else ⟨x.kind, x.level, [], 0, [], 0, 0, [], x.fine, x.g⟩
def okS (x : Sk) : Bool := if x.kind = 1 then (if x.level = 0 then exactRight x.e else hllRight x.bits x.regs && decide (x.bits = 8 - x.level))
  else if x.kind = 2 then cmsRight x.rows x.cols x.c && decide (x.rows = 2) && decide (x.cols = (Int.fdiv 32 (2 ^ min x.level.toNat IntKind.i64.bits))) else histRight x.fine x.g && decide (x.fine = 3 - x.level)
/-- is a sketch right? -/
def rightS (x : Sk) : Bool := decide (x.kind = 1 ∨ x.kind = 2 ∨ x.kind = 3) && decide (0 ≤ x.level ∧ x.level ≤ botI x.kind) && okS x && decide (endS x = x)
def heldV (x : SkV) : SV := if x.kind = 1 then (if x.level = 0 then .iface 116 (.agg [x.e.sv]) else .iface 119 (.agg [.int .i64 x.bits, .str x.regs])) else if x.kind = 2 then .iface 122 (.agg [.int .i64 x.rows, .int .i64 x.cols, x.c.sv]) else .iface 125 (.agg [.int .i64 x.fine, x.g.sv])
def stV (x : SkV) : SV := match rightS x.sk with
  | true => .tup [.agg [heldV x, .int .i64 x.kind, .int .i64 x.level], .raw .nilIface]
  | false => .tup [.agg [.raw .nilIface, .int .i64 0, .int .i64 0], .iface 98 (.agg [.int .i64 100])]
theorem botI_le (k : Int) : botI k ≤ 4 := by unfold botI; split <;> (try split) <;> (try split) <;> omega
theorem hllRight_bits {b : Int} {s : List UInt8} (h : hllRight b s = true) : 0 ≤ b ∧ b ≤ 64 := by
  simp only [hllRight, Bool.and_eq_true, decide_eq_true_eq] at h; omega

theorem c_start (x : SkV) (he : x.e.l.length ≤ 1000000) (hc : x.c.l.length ≤ 1000000) (hg : x.g.l.length ≤ 1000000) (hr : x.regs.length ≤ 9223372036854775807) : Ct Tryz.prog 26 [] [x.sv] x.fs (Rs (fun _ : Unit => stV x) (fun _ => []) (fun _ => []) (fun _ => True)) := by
  refine Ct.post (Ct.of Tryz.func26 rfl (n := 59) rfl rfl rfl ?_)
  conv => whnf
  repeat' first
    | (show SemO _ _ (.makeMap _ _) _ _ _ _ _; refine SemO.makeMap (κ := Int) (Value.int .i64) ?_; conv => whnf)
    | (show SemO _ _ (.insert _ _ _ _) _ _ _ _ _; refine SemO.insert (κ := Int) ?_ _ (Or.inl rfl); (conv => whnf); refine ⟨inferInstance, KeyLaw.int rfl, KeyIs.int (Ob.mk ⟨rfl, rfl⟩ ?_)⟩; intro L1 hL1; subst hL1; conv => whnf)
    | (show SemO _ _ (.lookup _ _ _ _) _ _ _ _ _; refine SemO.lookup ?_; (conv => whnf); refine ⟨inferInstance, KeyLaw.int rfl, KeyIs.int (Ob.mk rfl ?_)⟩; conv => whnf)
    | (refine Ob.mk rfl ?_; conv => whnf)
    | (refine Nx.mk ?_; conv => whnf)
    | (refine BR.yes ?_; conv => whnf)
    | (refine BR.no ?_; conv => whnf)
    | (intro bk; conv => whnf)
    | (show CallK _ _ 35 _ _ _ _; refine CallK.rv (c_bot x.kind) (by repeat' (first | exact trivial | exact .head _ | apply List.Mem.tail | apply And.intro)) (Nx.go ?_))
    | (show CallK _ _ 39 _ _ _ _; refine CallK.rv (c_wset _ _ _ x hz) (by repeat' (first | exact trivial | exact .head _ | apply List.Mem.tail | apply And.intro)) (Nx.go ?_))
    | (show CallK _ _ 39 _ _ _ _; refine CallK.rv (c_wreg _ _ _ x hz (by have := botI_le x.kind; omega) hr) (by repeat' (first | exact trivial | exact .head _ | apply List.Mem.tail | apply And.intro)) (Nx.go ?_))
    | (show CallK _ _ 40 _ _ _ _; refine CallK.rv (c_wcnt _ _ _ x (by have := botI_le x.kind; omega)) (by repeat' (first | exact trivial | exact .head _ | apply List.Mem.tail | apply And.intro)) (Nx.go ?_))
    | (show CallK _ _ 41 _ _ _ _; refine CallK.rv (c_wval _ _ _ x (by have := botI_le x.kind; omega) hg) (by repeat' (first | exact trivial | exact .head _ | apply List.Mem.tail | apply And.intro)) (Nx.go ?_))
    | (show CallK _ _ 42 _ _ _ _; refine CallK.rf (c_endS x.e he _ _) (by repeat' (first | exact trivial | exact .head _ | apply List.Mem.tail | apply And.intro)) (fun z hz2 => Nx.go ?_))
    | (show CallK _ _ 42 _ _ _ _; refine CallK.rf (c_endR x.bits x.regs (hllRight_bits (Bool.and_eq_true_iff.1 h).1) hr _ _) (by repeat' (first | exact trivial | exact .head _ | apply List.Mem.tail | apply And.intro)) (fun z hz2 => Nx.go ?_))
    | (show CallK _ _ 42 _ _ _ _; refine CallK.rf (c_endC x.rows x.cols x.c hc _ _) (by repeat' (first | exact trivial | exact .head _ | apply List.Mem.tail | apply And.intro)) (fun z hz2 => Nx.go ?_))
    | (show CallK _ _ 42 _ _ _ _; refine CallK.rf (c_endH x.fine x.g hg _ _) (by repeat' (first | exact trivial | exact .head _ | apply List.Mem.tail | apply And.intro)) (fun z hz2 => Nx.go ?_))
    | (show CallK _ _ 11 _ _ _ _; refine CallK.rv (c_same z x) (by repeat' (first | exact trivial | exact .head _ | apply List.Mem.tail | apply And.intro)) (Nx.go ?_))
    | (show CallK _ _ 39 _ _ _ _; by_cases hz : x.level = 0)
    | (show Post _ _ _ _ _; refine Rs.post () ?_ (Imp.fs (by repeat' (first | exact trivial | exact .head _ | apply List.Mem.tail | apply And.intro))) trivial)
    | (refine SemC.draw 3 [] [.t 0, .t 1, .t 2, .t 3, .t 4, .t 5, .t 6, .t 7, .t 8, .t 9, .t 10, .t 11, .s 12, .t 13, .t 14] (by kernel_rfl) (by kernel_rfl) ?_; conv => whnf)
    | (refine SemC.draw 6 [] [.t 0, .t 1, .t 2, .t 3, .t 5, .s 4, .l 6, .t 7, .t 8] (by kernel_rfl) (by kernel_rfl) ?_; conv => whnf)
    | (show RdB _ _ _; refine RdB.mk' (by repeat (first | exact .head _ | apply List.Mem.tail)) (Nx.go ?_))
    | (refine AR.i64 (by omega) ?_; conv => whnf)
    | (refine AR.u64 (by omega) ?_; conv => whnf)
    | (refine AR.u8 (by omega) ?_; conv => whnf)
    | (refine Ob.mk (by omega) ?_; conv => whnf)
    | (refine BR.mk (fun h => ?_) (fun h => ?_) <;> (first | rw [Bool.not_eq_true'] at h | rw [Bool.not_eq_false'] at h | skip) <;> (try rw [h]) <;> (first | replace h := of_decide_eq_true h | replace h := of_decide_eq_false h | replace h := eq_of_beq h | replace h := bne_iff_ne.1 h | replace h := beq_eq_false_iff_ne.1 h | replace h := bne_eq_false_iff_eq.1 h | skip) <;> conv => whnf)
  all_goals (try (have hr' : rightS x.sk = false := (by grind [rightS, okS, endS, SkV.sk]); simp only [stV, hr']; rfl))
  all_goals (have hr' : rightS x.sk = true := (by grind [rightS, okS, endS, SkV.sk, botI]); simp only [stV, heldV, *, if_true, if_false]; rfl)
end Go.Proofs.YtpdpajafaifcjaaGreatDoor

/- cost -/
namespace Go.Proofs.YtpdpajafaifcjaaGreatDoor
open Go.Proofs.YtpdpajafaifcjaaGreatDoor.W
set_option maxRecDepth 100000
set_option linter.unusedVariables false
theorem c_startT (x : SkV) (v : SV) (he : x.e.l.length ≤ 1000000) (hc : x.c.l.length ≤ 1000000) (hg : x.g.l.length ≤ 1000000) (hr : x.regs.length ≤ 9223372036854775807) (h : rightS x.sk = true) (hv : heldV x = v) : Ct Tryz.prog 26 [] [x.sv] x.fs (Rv (.tup [.agg [v, .int .i64 x.kind, .int .i64 x.level], .raw .nilIface])) := by
  subst hv
  refine ct_imp (c_start x he hc hg hr) ?_
  rintro v lb Φ ⟨_, rfl, rfl, rfl, _⟩
  show stV x = _
  rw [stV, h]
theorem c_startF (x : SkV) (he : x.e.l.length ≤ 1000000) (hc : x.c.l.length ≤ 1000000) (hg : x.g.l.length ≤ 1000000) (hr : x.regs.length ≤ 9223372036854775807) (h : rightS x.sk = false) : Ct Tryz.prog 26 [] [x.sv] x.fs (Rv (.tup [.agg [.raw .nilIface, .int .i64 0, .int .i64 0], .iface 98 (.agg [.int .i64 100])])) := by
  refine ct_imp (c_start x he hc hg hr) ?_
  rintro v lb Φ ⟨_, rfl, rfl, rfl, _⟩
  show stV x = _
  rw [stV, h]

theorem heldV_iface (x : SkV) : ∃ T l, heldV x = .iface T (.agg l) := by
  unfold heldV
  split
  · split <;> exact ⟨_, _, rfl⟩
  · split <;> exact ⟨_, _, rfl⟩

theorem c_right (x : SkV) (he : x.e.l.length ≤ 1000000) (hc : x.c.l.length ≤ 1000000) (hg : x.g.l.length ≤ 1000000) (hr : x.regs.length ≤ 9223372036854775807) : Ct Tryz.prog 12 [] [x.sv] x.fs (Rv (.bool (rightS x.sk))) := by
  refine Ct.of Tryz.func12 rfl (n := 12) rfl rfl rfl ?_
  conv => whnf
  repeat' first
    | (refine Ob.mk rfl ?_; conv => whnf)
    | (refine Nx.mk ?_; conv => whnf)
    | (intro bk; conv => whnf)
    | (show CallK _ _ 26 _ _ _ _; refine CallK.rv (c_startF x he hc hg hr h0) (by repeat' (first | exact trivial | exact .head _ | apply List.Mem.tail | apply And.intro)) (Nx.go ?_))
    | (show CallK _ _ 26 _ _ _ _; refine CallK.rv (c_startT x _ he hc hg hr h0 hv) (by repeat' (first | exact trivial | exact .head _ | apply List.Mem.tail | apply And.intro)) (Nx.go ?_))
    | (show CallK _ _ 26 _ _ _ _; rcases h0 : rightS x.sk; rotate_left; obtain ⟨T, l, hv⟩ := heldV_iface x)
    | (show RdB _ _ _; refine RdB.mk' (by repeat (first | exact .head _ | apply List.Mem.tail)) (Nx.go ?_))
    | (refine AR.i64 (by omega) ?_; conv => whnf)
    | (refine AR.u64 (by omega) ?_; conv => whnf)
    | (refine AR.u8 (by omega) ?_; conv => whnf)
    | (refine Ob.mk (by omega) ?_; conv => whnf)
  all_goals rfl

theorem c_rightX (x : SkV) (he : x.e.l.length ≤ 1000000) (hc : x.c.l.length ≤ 1000000) (hg : x.g.l.length ≤ 1000000) (hr : x.regs.length ≤ 9223372036854775807) {r : Bool} (h : rightS x.sk = r) : Ct Tryz.prog 12 [] [x.sv] x.fs (Rv (.bool r)) := h ▸ c_right x he hc hg hr

theorem c_cstS (y : Sli UInt64) (hy : y.l.length ≤ 1000000) : Ct Tryz.prog 94 [] [.agg [y.sv]] [] (Rv (.int .i64 (8 * y.l.length))) := by
  refine Ct.of Tryz.func94 rfl (n := 8) rfl rfl rfl ?_
  conv => whnf
  repeat' first
    | (refine Ob.mk rfl ?_; conv => whnf)
    | (refine Nx.mk ?_; conv => whnf)
    | (intro bk; conv => whnf)
    | (show RdB _ _ _; refine RdB.mk' (by repeat (first | exact .head _ | apply List.Mem.tail)) (Nx.go ?_))
    | (refine AR.i64 (by omega) ?_; conv => whnf)
    | (refine AR.u64 (by omega) ?_; conv => whnf)
    | (refine AR.u8 (by omega) ?_; conv => whnf)
    | (refine Ob.mk (by omega) ?_; conv => whnf)
  rfl

theorem c_cstR (bi : Int) (rg : List UInt8) : Ct Tryz.prog 99 [] [.agg [.int .i64 bi, .str rg]] [] (Rv (.int .i64 (rg.length))) := by
  refine Ct.of Tryz.func99 rfl (n := 7) rfl rfl rfl ?_
  conv => whnf
  repeat' first
    | (refine Ob.mk rfl ?_; conv => whnf)
    | (refine Nx.mk ?_; conv => whnf)
    | (intro bk; conv => whnf)
    | (show RdB _ _ _; refine RdB.mk' (by repeat (first | exact .head _ | apply List.Mem.tail)) (Nx.go ?_))
    | (refine Ob.mk (by omega) ?_; conv => whnf)
  rfl

theorem c_cstC (r c : Int) (y : Sli UInt64) (hy : y.l.length ≤ 1000000) : Ct Tryz.prog 104 [] [.agg [.int .i64 r, .int .i64 c, y.sv]] [] (Rv (.int .i64 (8 * y.l.length))) := by
  refine Ct.of Tryz.func104 rfl (n := 8) rfl rfl rfl ?_
  conv => whnf
  repeat' first
    | (refine Ob.mk rfl ?_; conv => whnf)
    | (refine Nx.mk ?_; conv => whnf)
    | (intro bk; conv => whnf)
    | (show RdB _ _ _; refine RdB.mk' (by repeat (first | exact .head _ | apply List.Mem.tail)) (Nx.go ?_))
    | (refine AR.i64 (by omega) ?_; conv => whnf)
    | (refine AR.u64 (by omega) ?_; conv => whnf)
    | (refine AR.u8 (by omega) ?_; conv => whnf)
    | (refine Ob.mk (by omega) ?_; conv => whnf)
  rfl

theorem c_cstH (fi : Int) (y : Sli Bin) (hy : y.l.length ≤ 1000000) : Ct Tryz.prog 109 [] [.agg [.int .i64 fi, y.sv]] [] (Rv (.int .i64 (16 * y.l.length))) := by
  refine Ct.of Tryz.func109 rfl (n := 8) rfl rfl rfl ?_
  conv => whnf
  repeat' first
    | (refine Ob.mk rfl ?_; conv => whnf)
    | (refine Nx.mk ?_; conv => whnf)
    | (intro bk; conv => whnf)
    | (show RdB _ _ _; refine RdB.mk' (by repeat (first | exact .head _ | apply List.Mem.tail)) (Nx.go ?_))
    | (refine AR.i64 (by omega) ?_; conv => whnf)
    | (refine AR.u64 (by omega) ?_; conv => whnf)
    | (refine AR.u8 (by omega) ?_; conv => whnf)
    | (refine Ob.mk (by omega) ?_; conv => whnf)
  rfl

theorem c_costS (x : SkV) (he : x.e.l.length ≤ 1000000) (hc : x.c.l.length ≤ 1000000) (hg : x.g.l.length ≤ 1000000) (hr : x.regs.length ≤ 9223372036854775807) (h0 : rightS x.sk = true) (hk : x.kind = 1) (hz : x.level = 0) : Ct Tryz.prog 14 [] [x.sv] x.fs (Rv (.int .i64 (16 + 8 * x.e.l.length))) := by
  refine Ct.of Tryz.func14 rfl (n := 16) rfl rfl rfl ?_
  conv => whnf
  repeat' first
    | (refine Ob.mk rfl ?_; conv => whnf)
    | (refine Nx.mk ?_; conv => whnf)
    | (refine BR.yes ?_; conv => whnf)
    | (refine BR.no ?_; conv => whnf)
    | (intro bk; conv => whnf)
    | (show CallK _ _ 26 _ _ _ _; refine CallK.rv (c_startT x _ he hc hg hr h0 (by rw [heldV, if_pos hk, if_pos hz])) (by repeat' (first | exact trivial | exact .head _ | apply List.Mem.tail | apply And.intro)) (Nx.go ?_))
    | (show CallK _ _ 94 _ _ _ _; refine CallK.rv (c_cstS x.e he) (by repeat' (first | exact trivial | exact .head _ | apply List.Mem.tail | apply And.intro)) (Nx.go ?_))
    | (show InvK _ _ _ _ _; refine InvK.mk' 94 (.agg [x.e.sv]) (fun w => by kernel_rfl) ?_; conv => whnf)
    | (show RdB _ _ _; refine RdB.mk' (by repeat (first | exact .head _ | apply List.Mem.tail)) (Nx.go ?_))
    | (refine AR.i64 (by omega) ?_; conv => whnf)
    | (refine AR.u64 (by omega) ?_; conv => whnf)
    | (refine AR.u8 (by omega) ?_; conv => whnf)
    | (refine Ob.mk (by omega) ?_; conv => whnf)
    | (refine BR.mk (fun h => ?_) (fun h => ?_) <;> (first | rw [Bool.not_eq_true'] at h | rw [Bool.not_eq_false'] at h | skip) <;> (try rw [h]) <;> (first | replace h := of_decide_eq_true h | replace h := of_decide_eq_false h | replace h := eq_of_beq h | replace h := bne_iff_ne.1 h | replace h := beq_eq_false_iff_ne.1 h | replace h := bne_eq_false_iff_eq.1 h | skip) <;> conv => whnf)
  rfl

theorem c_costR (x : SkV) (he : x.e.l.length ≤ 1000000) (hc : x.c.l.length ≤ 1000000) (hg : x.g.l.length ≤ 1000000) (hr : x.regs.length ≤ 9223372036854775807) (h0 : rightS x.sk = true) (hk : x.kind = 1) (hz : ¬ x.level = 0) (hb : x.regs.length ≤ 1000000) : Ct Tryz.prog 14 [] [x.sv] x.fs (Rv (.int .i64 (16 + x.regs.length))) := by
  refine Ct.of Tryz.func14 rfl (n := 16) rfl rfl rfl ?_
  conv => whnf
  repeat' first
    | (refine Ob.mk rfl ?_; conv => whnf)
    | (refine Nx.mk ?_; conv => whnf)
    | (refine BR.yes ?_; conv => whnf)
    | (refine BR.no ?_; conv => whnf)
    | (intro bk; conv => whnf)
    | (show CallK _ _ 26 _ _ _ _; refine CallK.rv (c_startT x _ he hc hg hr h0 (by rw [heldV, if_pos hk, if_neg hz])) (by repeat' (first | exact trivial | exact .head _ | apply List.Mem.tail | apply And.intro)) (Nx.go ?_))
    | (show CallK _ _ 99 _ _ _ _; refine CallK.rv (c_cstR x.bits x.regs) (by repeat' (first | exact trivial | exact .head _ | apply List.Mem.tail | apply And.intro)) (Nx.go ?_))
    | (show InvK _ _ _ _ _; refine InvK.mk' 99 (.agg [.int .i64 x.bits, .str x.regs]) (fun w => by kernel_rfl) ?_; conv => whnf)
    | (show RdB _ _ _; refine RdB.mk' (by repeat (first | exact .head _ | apply List.Mem.tail)) (Nx.go ?_))
    | (refine AR.i64 (by omega) ?_; conv => whnf)
    | (refine AR.u64 (by omega) ?_; conv => whnf)
    | (refine AR.u8 (by omega) ?_; conv => whnf)
    | (refine Ob.mk (by omega) ?_; conv => whnf)
    | (refine BR.mk (fun h => ?_) (fun h => ?_) <;> (first | rw [Bool.not_eq_true'] at h | rw [Bool.not_eq_false'] at h | skip) <;> (try rw [h]) <;> (first | replace h := of_decide_eq_true h | replace h := of_decide_eq_false h | replace h := eq_of_beq h | replace h := bne_iff_ne.1 h | replace h := beq_eq_false_iff_ne.1 h | replace h := bne_eq_false_iff_eq.1 h | skip) <;> conv => whnf)
  rfl

theorem c_costC (x : SkV) (he : x.e.l.length ≤ 1000000) (hc : x.c.l.length ≤ 1000000) (hg : x.g.l.length ≤ 1000000) (hr : x.regs.length ≤ 9223372036854775807) (h0 : rightS x.sk = true) (hk : x.kind = 2) : Ct Tryz.prog 14 [] [x.sv] x.fs (Rv (.int .i64 (16 + 8 * x.c.l.length))) := by
  refine Ct.of Tryz.func14 rfl (n := 16) rfl rfl rfl ?_
  conv => whnf
  repeat' first
    | (refine Ob.mk rfl ?_; conv => whnf)
    | (refine Nx.mk ?_; conv => whnf)
    | (refine BR.yes ?_; conv => whnf)
    | (refine BR.no ?_; conv => whnf)
    | (intro bk; conv => whnf)
    | (show CallK _ _ 26 _ _ _ _; refine CallK.rv (c_startT x _ he hc hg hr h0 (by rw [heldV, if_neg (by omega), if_pos hk])) (by repeat' (first | exact trivial | exact .head _ | apply List.Mem.tail | apply And.intro)) (Nx.go ?_))
    | (show CallK _ _ 104 _ _ _ _; refine CallK.rv (c_cstC x.rows x.cols x.c hc) (by repeat' (first | exact trivial | exact .head _ | apply List.Mem.tail | apply And.intro)) (Nx.go ?_))
    | (show InvK _ _ _ _ _; refine InvK.mk' 104 (.agg [.int .i64 x.rows, .int .i64 x.cols, x.c.sv]) (fun w => by kernel_rfl) ?_; conv => whnf)
    | (show RdB _ _ _; refine RdB.mk' (by repeat (first | exact .head _ | apply List.Mem.tail)) (Nx.go ?_))
    | (refine AR.i64 (by omega) ?_; conv => whnf)
    | (refine AR.u64 (by omega) ?_; conv => whnf)
    | (refine AR.u8 (by omega) ?_; conv => whnf)
    | (refine Ob.mk (by omega) ?_; conv => whnf)
    | (refine BR.mk (fun h => ?_) (fun h => ?_) <;> (first | rw [Bool.not_eq_true'] at h | rw [Bool.not_eq_false'] at h | skip) <;> (try rw [h]) <;> (first | replace h := of_decide_eq_true h | replace h := of_decide_eq_false h | replace h := eq_of_beq h | replace h := bne_iff_ne.1 h | replace h := beq_eq_false_iff_ne.1 h | replace h := bne_eq_false_iff_eq.1 h | skip) <;> conv => whnf)
  rfl

theorem c_costH (x : SkV) (he : x.e.l.length ≤ 1000000) (hc : x.c.l.length ≤ 1000000) (hg : x.g.l.length ≤ 1000000) (hr : x.regs.length ≤ 9223372036854775807) (h0 : rightS x.sk = true) (hk : x.kind = 3) : Ct Tryz.prog 14 [] [x.sv] x.fs (Rv (.int .i64 (16 + 16 * x.g.l.length))) := by
  refine Ct.of Tryz.func14 rfl (n := 16) rfl rfl rfl ?_
  conv => whnf
  repeat' first
    | (refine Ob.mk rfl ?_; conv => whnf)
    | (refine Nx.mk ?_; conv => whnf)
    | (refine BR.yes ?_; conv => whnf)
    | (refine BR.no ?_; conv => whnf)
    | (intro bk; conv => whnf)
    | (show CallK _ _ 26 _ _ _ _; refine CallK.rv (c_startT x _ he hc hg hr h0 (by rw [heldV, if_neg (by omega), if_neg (by omega)])) (by repeat' (first | exact trivial | exact .head _ | apply List.Mem.tail | apply And.intro)) (Nx.go ?_))
    | (show CallK _ _ 109 _ _ _ _; refine CallK.rv (c_cstH x.fine x.g hg) (by repeat' (first | exact trivial | exact .head _ | apply List.Mem.tail | apply And.intro)) (Nx.go ?_))
    | (show InvK _ _ _ _ _; refine InvK.mk' 109 (.agg [.int .i64 x.fine, x.g.sv]) (fun w => by kernel_rfl) ?_; conv => whnf)
    | (show RdB _ _ _; refine RdB.mk' (by repeat (first | exact .head _ | apply List.Mem.tail)) (Nx.go ?_))
    | (refine AR.i64 (by omega) ?_; conv => whnf)
    | (refine AR.u64 (by omega) ?_; conv => whnf)
    | (refine AR.u8 (by omega) ?_; conv => whnf)
    | (refine Ob.mk (by omega) ?_; conv => whnf)
    | (refine BR.mk (fun h => ?_) (fun h => ?_) <;> (first | rw [Bool.not_eq_true'] at h | rw [Bool.not_eq_false'] at h | skip) <;> (try rw [h]) <;> (first | replace h := of_decide_eq_true h | replace h := of_decide_eq_false h | replace h := eq_of_beq h | replace h := bne_iff_ne.1 h | replace h := beq_eq_false_iff_ne.1 h | replace h := bne_eq_false_iff_eq.1 h | skip) <;> conv => whnf)
  rfl
end Go.Proofs.YtpdpajafaifcjaaGreatDoor

/- numbers -/
namespace Go.Proofs.YtpdpajafaifcjaaGreatDoor
open Go.Proofs.YtpdpajafaifcjaaGreatDoor.W
set_option maxRecDepth 100000
set_option linter.unusedVariables false
/-- each number less the one ahead -/
def difU : UInt64 → List UInt64 → List UInt64
  | _, [] => []
  | a, x :: l => (x - a) :: difU x l
def lstU (a : UInt64) (l : List UInt64) : UInt64 := l.foldl (fun _ x => x) a
theorem difU_snoc (a : UInt64) (l : List UInt64) (x : UInt64) : difU a (l ++ [x]) = difU a l ++ [x - lstU a l] := by
  induction l generalizing a with
  | nil => rfl
  | cons y l ih => simp only [List.cons_append, difU, ih]; rfl
theorem lstU_snoc (a : UInt64) (l : List UInt64) (x : UInt64) : lstU a (l ++ [x]) = x := by simp [lstU]
theorem difU_len (a : UInt64) (l : List UInt64) : (difU a l).length = l.length := by
  induction l generalizing a with
  | nil => rfl
  | cons y l ih => simp [difU, ih]
def binN : Int → List Bin → List UInt64
  | _, [] => []
  | a, x :: l => U (x.at_ - a) :: x.n :: binN x.at_ l
def lstB (a : Int) (l : List Bin) : Int := l.foldl (fun _ x => x.at_) a
theorem binN_snoc (a : Int) (l : List Bin) (x : Bin) : binN a (l ++ [x]) = binN a l ++ [U (x.at_ - lstB a l), x.n] := by
  induction l generalizing a with
  | nil => rfl
  | cons y l ih => simp only [List.cons_append, binN, ih]; rfl
theorem lstB_snoc (a : Int) (l : List Bin) (x : Bin) : lstB a (l ++ [x]) = x.at_ := by simp [lstB]
theorem binN_len (a : Int) (l : List Bin) : (binN a l).length = 2 * l.length := by
  induction l generalizing a with
  | nil => rfl
  | cons y l ih => simp [binN, ih]; omega
/-- how many there are, where that is told -/
def headN (x : Sk) : List UInt64 := if x.kind = 1 ∧ x.level = 0 then [U x.e.length] else if x.kind = 3 then [U x.g.length] else []
/-- a sketch's numbers -/
def numS (x : Sk) : List UInt64 := headN x ++ difU 0 x.e ++ x.c ++ binN 0 x.g
def numX (l : List UInt64) : List (List SV) := l.map fun n => [.int .u64 n.toNat]
theorem numX_at {l : List UInt64} {j : Nat} {n : UInt64} (h : l[j]? = some n) : ((numX l).map dens)[j]? = some (dens [.int .u64 n.toNat]) := by
  simp [numX, h]
theorem headN_len (x : Sk) : (headN x).length ≤ 1 := by unfold headN; split <;> (try split) <;> simp
structure RowU where
  i : Nat
  b : Nat
  p : Option Addr
  n : Nat
  c : Nat
  l : List UInt64
  a : UInt64
structure RowB where
  i : Nat
  b : Nat
  p : Option Addr
  n : Nat
  c : Nat
  l : List UInt64
  a : Int

abbrev rowUI (x : SkV) (j : RowU) : Prop := j.i ≤ x.e.l.length ∧ j.n = j.l.length ∧ j.l = headN x.sk ++ difU 0 (x.e.l.take j.i) ∧ j.a = lstU 0 (x.e.l.take j.i)
abbrev rowBI (x : SkV) (k : RowB) : Prop := k.i ≤ x.g.l.length ∧ k.n = k.l.length ∧ k.l = headN x.sk ++ difU 0 x.e.l ++ x.c.l ++ binN 0 (x.g.l.take k.i) ∧ k.a = lstB 0 (x.g.l.take k.i) ∧ 0 ≤ k.a ∧ k.a ≤ 1000000
theorem rowU_n {x : SkV} {j : RowU} (hi : rowUI x j) : j.n ≤ 1 + x.e.l.length := by
  have h1 := headN_len x.sk
  have h2 := congrArg List.length hi.2.2.1
  rw [List.length_append, difU_len, List.length_take] at h2
  have := hi.1; have := hi.2.1; omega
theorem rowU_0 {x : SkV} {l : List UInt64} {b : Nat} {p : Option Addr} {c : Nat} (h : l = headN x.sk) : rowUI x ⟨0, b, p, 0 + l.length, c, [] ++ l, 0⟩ := by
  subst h; exact ⟨Nat.zero_le _, by simp, by simp [difU], rfl⟩
theorem rowU_1 {x : SkV} {b : Nat} {p : Option Addr} {c : Nat} (h : [] = headN x.sk) : rowUI x ⟨0, b, p, 0, c, [], 0⟩ := by
  exact ⟨Nat.zero_le _, by simp, by simp [difU, ← h], rfl⟩
theorem rowU_s {x : SkV} {j : RowU} {e : UInt64} {l : List UInt64} {b : Nat} {p : Option Addr} {c : Nat} (hi : rowUI x j) (he : x.e.l[j.i]? = some e) (hl : l = [e - j.a]) : rowUI x ⟨j.i + 1, b, p, j.n + l.length, c, j.l ++ l, e⟩ := by
  obtain ⟨h1, h2, h3, h4⟩ := hi
  have hlt := (List.getElem?_eq_some_iff.1 he).1
  refine ⟨hlt, ?_, ?_, ?_⟩
  · show j.n + _ = (j.l ++ l).length; rw [List.length_append, h2]
  · show j.l ++ l = _; rw [take_snoc he, difU_snoc, h3, hl, h4, List.append_assoc]
  · show e = _; rw [take_snoc he, lstU_snoc]
theorem rowU_e {x : SkV} {j : RowU} {b : Nat} {p : Option Addr} {c : Nat} (hi : rowUI x j) (h : ¬ (j.i : Int) < x.e.l.length) : rowBI x ⟨0, b, p, j.n + x.c.l.length, c, j.l ++ x.c.l, 0⟩ := by
  obtain ⟨h1, h2, h3, h4⟩ := hi
  refine ⟨Nat.zero_le _, ?_, ?_, rfl, Int.le_refl 0, (by decide : (0 : Int) ≤ 1000000)⟩
  · show j.n + _ = (j.l ++ _).length; rw [List.length_append, h2]
  · show j.l ++ _ = _; rw [h3, take_all (show x.e.l.length ≤ j.i by omega)]; simp [binN]
theorem rowB_n {x : SkV} {k : RowB} (hi : rowBI x k) : k.n ≤ 1 + x.e.l.length + x.c.l.length + 2 * x.g.l.length := by
  have h1 := headN_len x.sk
  have h2 := congrArg List.length hi.2.2.1
  rw [List.length_append, List.length_append, List.length_append, difU_len, binN_len, List.length_take] at h2
  have := hi.1; have := hi.2.1; omega
theorem rowB_s {x : SkV} {k : RowB} {e : Bin} {l : List UInt64} {b : Nat} {p : Option Addr} {c : Nat} (hi : rowBI x k) (he : x.g.l[k.i]? = some e) (hA : ∀ y ∈ x.g.l, 0 ≤ y.at_ ∧ y.at_ ≤ 1000000) (hl : l = [U (e.at_ - k.a), e.n]) : rowBI x ⟨k.i + 1, b, p, k.n + l.length, c, k.l ++ l, e.at_⟩ := by
  obtain ⟨h1, h2, h3, h4, h5, h6⟩ := hi
  have hlt := (List.getElem?_eq_some_iff.1 he).1
  have h7 := hA _ (List.mem_of_getElem? he)
  refine ⟨hlt, ?_, ?_, ?_, h7.1, h7.2⟩
  · show k.n + _ = (k.l ++ l).length; rw [List.length_append, h2]
  · show k.l ++ l = _; rw [take_snoc he, binN_snoc, h3, hl, h4]; simp only [List.append_assoc]
  · show e.at_ = _; rw [take_snoc he, lstB_snoc]
theorem rowB_e {x : SkV} {k : RowB} (hi : rowBI x k) (h : ¬ (k.i : Int) < x.g.l.length) : k.l = numS x.sk := by
  rw [hi.2.2.1, take_all (show x.g.l.length ≤ k.i by omega)]; rfl

set_option maxHeartbeats 4000000

theorem i_num (x : SkV) (b : Nat) (he : x.e.l.length ≤ 100000) (hc : x.c.l.length ≤ 100000) (hg : x.g.l.length ≤ 100000) (hgA : ∀ y ∈ x.g.l, 0 ≤ y.at_ ∧ y.at_ ≤ 1000000) : It Tryz.prog 30 [] [.raw (.pointer (some ⟨b, 0, none⟩))] (blkF b x.cs 33 :: x.fs) ((numX (numS x.sk)).map dens) (fun _ _ => True) := by
  refine It.of Tryz.func30 rfl (n := 94) rfl rfl rfl (fun lp => ?_)
  conv => whnf
  repeat' first
    | (show SemO _ _ (.buildSlice _ _ #[(0, .tmp 26)]) _ _ _ _ _; refine SemO.lit ?_; (conv => whnf); show BsV _ _ _ _ _; refine BsV.s [U x.e.l.length] (by repeat (first | exact .nil | refine .cons (by first | rfl | exact encB_of (by omega) | exact encU_U (by omega)) ?_)) (fun xo _ => okU xo) (fun ys hys => Nx.go ?_))
    | (show SemO _ _ (.buildSlice _ _ #[(0, .tmp 38)]) _ _ _ _ _; refine SemO.lit ?_; (conv => whnf); show BsV _ _ _ _ _; refine BsV.s [U x.g.l.length] (by repeat (first | exact .nil | refine .cons (by first | rfl | exact encB_of (by omega) | exact encU_U (by omega)) ?_)) (fun xo _ => okU xo) (fun ys hys => Nx.go ?_))
    | (show SemO _ _ (.buildSlice _ _ #[(0, .tmp 52)]) _ _ _ _ _; refine SemO.lit ?_; (conv => whnf); show BsV _ _ _ _ _; refine BsV.s [xe - j.a] (by repeat (first | exact .nil | refine .cons (by first | rfl | exact encB_of (by omega) | exact encU_U (by omega)) ?_)) (fun xo _ => okU xo) (fun ys hys => Nx.go ?_))
    | (show SemO _ _ (.buildSlice _ _ #[(0, .tmp 75), (1, .tmp 77)]) _ _ _ _ _; refine SemO.lit ?_; (conv => whnf); show BsV _ _ _ _ _; refine BsV.s [U (xe.at_ - k.a), xe.n] (by repeat (first | exact .nil | refine .cons (by first | rfl | exact encB_of (by omega) | exact encU_U (by omega)) ?_)) (fun xo _ => okU xo) (fun ys hys => Nx.go ?_))
    | (refine AR.subU ?_; conv => whnf)
    | (show AR .i64 (xe.at_ - _) _; refine AR.i64 (by have := hgA _ (List.mem_of_getElem? hxe); omega) ?_; conv => whnf)
    | (show AR .u64 (xe.at_ - _) _; refine AR.cvU ?_; conv => whnf)
    | (show SemO _ _ (.call ⟨.builtin .append, _, _⟩) _ _ _ _ _; refine SemO.appendVec ?_; (conv => whnf); refine Ob.mk ⟨rfl, rfl, rfl, rfl, rfl⟩ ?_)
    | (show AppV _ _ _ _ _ _ _ _ _ _ _ _ _ _; refine ⟨rfl, _, .fact (by repeat (first | exact .head _ | apply List.Mem.tail)), app_le (N := 1048576) ?_ (of_decide_eq_true (by kernel_rfl)), ?_, fun bv pv cv hcv => Nx.go ?_⟩)
    | (show SemO _ _ (.call ⟨.builtin .append, _, _⟩) _ _ _ _ _; refine SemO.appendNew true ?_; (conv => whnf); show AppN _ _ _ _ _ _ _ _ _ _ _ _ _; refine ⟨⟨_, encU, [], ys.l, .nil, .fact (by repeat (first | exact .head _ | apply List.Mem.tail)), app_le (N := 1048576) ?_ (of_decide_eq_true (by kernel_rfl)), ?_, Or.inr rfl, fun bv pv cv hcv => ?_⟩⟩; conv => whnf)
    | (refine Ob.mk rfl ?_; conv => whnf)
    | (refine Nx.mk ?_; conv => whnf)
    | (refine BR.yes ?_; conv => whnf)
    | (refine BR.no ?_; conv => whnf)
    | (intro bk; conv => whnf)
    | (show SemC _ _ _ (.loop (.seq (.region 7 _ _) _)) _ _ _ _ _; refine SemC.loopB (c := (.seq (.region 7 _ _) _)) (fun j : RowU => [(45, .int .i64 j.i), (3, .vec 1 j.p j.n j.c), (4, .int .u64 j.a.toNat)]) (fun j => [(0, .seq lp ((numX (numS x.sk)).map dens) (some 0)), (j.b, .vec encU 1 46 j.p j.n j.c j.l)]) (fun j => j.i ≤ x.e.l.length ∧ j.n = j.l.length ∧ j.l = headN x.sk ++ difU 0 (x.e.l.take j.i) ∧ j.a = lstU 0 (x.e.l.take j.i)) (fun j => x.e.l.length - j.i) ⟨0, bv, pv, 0 + ys.l.length, cv, [] ++ ys.l, 0⟩ ?_; (conv => whnf); refine LoopQ.mk ?_ ⟨(by repeat (first | exact trivial | refine ⟨rfl, ?_⟩ | refine ⟨congrArg (Value.int _) (by omega), ?_⟩)), Imp.refl⟩ (fun j hi => ?_))
    | (show Exists _; refine Exists.intro (⟨j.i + 1, bv, pv, j.n + ys.l.length, cv, j.l ++ ys.l, xe⟩) ⟨?_, ?_, rfl, ⟨(by repeat (first | exact trivial | refine ⟨rfl, ?_⟩ | refine ⟨congrArg (Value.int _) (by omega), ?_⟩)), Imp.to 2 rfl (by repeat' (first | exact trivial | exact .head _ | apply List.Mem.tail | apply And.intro))⟩⟩)
    | (show SemC _ _ _ (.loop (.seq (.region 7 _ _) _)) _ _ _ _ _; refine SemC.loopB (c := (.seq (.region 7 _ _) _)) (fun j : RowU => [(45, .int .i64 j.i), (3, .vec 1 j.p j.n j.c), (4, .int .u64 j.a.toNat)]) (fun j => [(0, .seq lp ((numX (numS x.sk)).map dens) (some 0)), (j.b, .vec encU 1 46 j.p j.n j.c j.l)]) (fun j => j.i ≤ x.e.l.length ∧ j.n = j.l.length ∧ j.l = headN x.sk ++ difU 0 (x.e.l.take j.i) ∧ j.a = lstU 0 (x.e.l.take j.i)) (fun j => x.e.l.length - j.i) ⟨0, 0, none, 0, 0, [], 0⟩ ?_; (conv => whnf); refine LoopQ.mk ?_ ⟨(by repeat (first | exact trivial | refine ⟨rfl, ?_⟩ | refine ⟨congrArg (Value.int _) (by omega), ?_⟩)), (Imp.nilVec encU 1 46)⟩ (fun j hi => ?_))
    | (show Exists _; refine Exists.intro (⟨j.i + 1, bv, pv, j.n + ys.l.length, cv, j.l ++ ys.l, xe⟩) ⟨?_, ?_, rfl, ⟨(by repeat (first | exact trivial | refine ⟨rfl, ?_⟩ | refine ⟨congrArg (Value.int _) (by omega), ?_⟩)), Imp.to 2 rfl (by repeat' (first | exact trivial | exact .head _ | apply List.Mem.tail | apply And.intro))⟩⟩)
    | (show SemC _ _ _ (.loop (.seq (.region 13 _ _) _)) _ _ _ _ _; refine SemC.loopB (c := (.seq (.region 13 _ _) _)) (fun k : RowB => [(66, .int .i64 k.i), (3, .vec 1 k.p k.n k.c), (5, .int .i64 k.a)]) (fun k => [(0, .seq lp ((numX (numS x.sk)).map dens) (some 0)), (k.b, .vec encU 1 46 k.p k.n k.c k.l)]) (fun k => k.i ≤ x.g.l.length ∧ k.n = k.l.length ∧ k.l = headN x.sk ++ difU 0 x.e.l ++ x.c.l ++ binN 0 (x.g.l.take k.i) ∧ k.a = lstB 0 (x.g.l.take k.i) ∧ 0 ≤ k.a ∧ k.a ≤ 1000000) (fun k => x.g.l.length - k.i) ⟨0, bv, pv, j.n + x.c.l.length, cv, j.l ++ x.c.l, 0⟩ ?_; (conv => whnf); refine LoopQ.mk ?_ ⟨(by repeat (first | exact trivial | refine ⟨rfl, ?_⟩ | refine ⟨congrArg (Value.int _) (by omega), ?_⟩)), Imp.refl⟩ (fun k hi => ?_))
    | (show Exists _; refine Exists.intro (⟨k.i + 1, bv, pv, k.n + ys.l.length, cv, k.l ++ ys.l, xe.at_⟩) ⟨?_, ?_, rfl, ⟨(by repeat (first | exact trivial | refine ⟨rfl, ?_⟩ | refine ⟨congrArg (Value.int _) (by omega), ?_⟩)), Imp.to 2 rfl (by repeat' (first | exact trivial | exact .head _ | apply List.Mem.tail | apply And.intro))⟩⟩)
    | (show SemC _ _ _ (.loop (.seq (.region 18 _ _) _)) _ _ _ _ _; refine SemC.loopB (c := (.seq (.region 18 _ _) _)) (fun m : Nat => [(85, .int .i64 m)]) (fun m => [(0, .seq lp ((numX (numS x.sk)).map dens) (some m)), (k.b, .vec encU 1 46 k.p k.n k.c k.l)]) (fun m => m ≤ k.l.length ∧ k.n = k.l.length ∧ k.l = numS x.sk ∧ k.n ≤ 400001) (fun m => k.l.length - m) 0 ?_; (conv => whnf); refine LoopQ.mk ?_ ⟨(by repeat (first | exact trivial | refine ⟨rfl, ?_⟩ | refine ⟨congrArg (Value.int _) (by omega), ?_⟩)), Imp.refl⟩ (fun m hi => ?_))
    | (show Exists _; refine Exists.intro (m + 1) ⟨?_, ?_, rfl, ⟨(by repeat (first | exact trivial | refine ⟨rfl, ?_⟩ | refine ⟨congrArg (Value.int _) (by omega), ?_⟩)), Imp.refl⟩⟩)
    | (refine Ob.mk ⟨rfl, ?_⟩ ⟨Nx.go ?_, Nx.go ?_⟩)
    | (exact ⟨_, _, rfl, Or.inl rfl, trivial⟩)
    | (refine ⟨_, _, rfl, Or.inr (congrArg some ?_), trivial⟩)
    | (refine SemC.draw 15 [1] [.t 0, .t 1, .t 2, .t 3, .t 4, .t 5, .t 6, .t 7, .m 10, .m 11, .s 8, .w 9, .t 12, .t 13] (by kernel_rfl) (by kernel_rfl) ?_; conv => whnf)
    | (refine Idx.nat ?_; conv => whnf)
    | (refine Idx.is _ rfl ?_; conv => whnf)
    | (show HasP _ _ _ _ _ _; refine HasP.mk' (by repeat (first | exact .head _ | apply List.Mem.tail)) (Nx.go ?_))
    | (show RdE _ _ _ _ _ _ _; refine RdE.s (by repeat (first | exact .head _ | apply List.Mem.tail)) (by omega) (fun xe hxe => Nx.go ?_))
    | (show RdB _ _ _; refine RdB.mk' (by repeat (first | exact .head _ | apply List.Mem.tail)) (Nx.go ?_))
    | (refine AR.i64 (by omega) ?_; conv => whnf)
    | (refine AR.u64 (by omega) ?_; conv => whnf)
    | (refine AR.u8 (by omega) ?_; conv => whnf)
    | (refine Ob.mk (by omega) ?_; conv => whnf)
    | (refine BR.mk (fun h => ?_) (fun h => ?_) <;> (first | rw [Bool.not_eq_true'] at h | rw [Bool.not_eq_false'] at h | skip) <;> (try rw [h]) <;> (first | replace h := of_decide_eq_true h | replace h := of_decide_eq_false h | replace h := eq_of_beq h | replace h := bne_iff_ne.1 h | replace h := beq_eq_false_iff_ne.1 h | replace h := bne_eq_false_iff_eq.1 h | skip) <;> conv => whnf)
  all_goals (try (show 0 + ys.l.length ≤ _; rw [hys]; simp only [List.length_singleton]; omega))
  all_goals (try (have h8 := rowU_n hi; show j.n + ys.l.length ≤ _; rw [hys]; simp only [List.length_singleton]; omega))
  all_goals (try (have h8 := rowU_n hi; show j.n + x.c.l.length ≤ _; omega))
  all_goals (try (have h8 := rowB_n hi; show k.n + ys.l.length ≤ _; rw [hys]; simp only [List.length_cons, List.length_nil]; omega))
  all_goals (try exact rowU_s hi hxe hys)
  all_goals (try exact rowU_e hi h)
  all_goals (try exact rowB_s hi hxe hgA hys)
  all_goals (try exact rowU_0 (by rw [hys, headN]; simp_all [SkV.sk]))
  all_goals (try exact rowU_1 (by rw [headN]; simp_all [SkV.sk]))
  all_goals (try exact ⟨Nat.zero_le _, hi.2.1, rowB_e hi h, by have := rowB_n hi; omega⟩)
  all_goals (try exact ⟨rfl, rfl, by kernel_rfl, by omega⟩)
  all_goals (try exact ⟨rfl, by kernel_rfl, by omega⟩)
  all_goals (try exact numX_at (hi.2.2.1 ▸ bk))
  all_goals (try (rw [List.length_map, numX, List.length_map, ← hi.2.2.1]; omega))
  all_goals (try exact ⟨by omega, hi.2.1, hi.2.2⟩)
  all_goals (first | omega | (dsimp only; omega))
end Go.Proofs.YtpdpajafaifcjaaGreatDoor
