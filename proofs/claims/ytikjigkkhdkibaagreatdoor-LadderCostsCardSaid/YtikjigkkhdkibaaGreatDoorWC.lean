/- YtikjigkkhdkibaaGreatDoorWC: a part of the proofs of given statements of this seat; no condition beyond them. -/
import Derived.Test.YtikjigkkhdkibaaGreatDoorWB
import Derived.Shelf.SlIterI.Sorted
set_option linter.unusedVariables false
/- What the sketches of a ladder compute: sets, registers, counters, histograms. Plain lists; of no program. -/
namespace Go.Proofs.YtikjigkkhdkibaaGreatDoor.W
/-! ### exact -/
def insU (n : UInt64) : List UInt64 → List UInt64
  | [] => [n]
  | a :: l => if n < a then n :: a :: l else if a < n then a :: insU n l else a :: l
def ofE (acc l : List UInt64) : List UInt64 := l.foldl (fun a n => insU n a) acc
/-- how many are less -/
def belowU (l : List UInt64) (n : UInt64) : Nat := (l.takeWhile fun a => decide (a < n)).length
theorem risesU_cons {a : UInt64} {l : List UInt64} : risesU (a :: l) = true ↔ (∀ b, l.head? = some b → a < b) ∧ risesU l = true := by
  cases l with
  | nil => simp [risesU]
  | cons b l => simp [risesU]
theorem risesU_all {a : UInt64} {l : List UInt64} (h : risesU (a :: l) = true) : ∀ b ∈ l, a < b := by
  induction l generalizing a with
  | nil => simp
  | cons c l ih =>
    simp only [risesU, Bool.and_eq_true, decide_eq_true_eq] at h
    intro b hb
    rcases List.mem_cons.1 hb with rfl | hb
    · exact h.1
    · exact UInt64.lt_trans h.1 (ih h.2 b hb)
theorem mem_insU {n b : UInt64} {l : List UInt64} : b ∈ insU n l ↔ b = n ∨ b ∈ l := by
  induction l with
  | nil => simp [insU]
  | cons a l ih =>
    simp only [insU]
    split
    · simp
    · split
      · simp [ih]; grind
      · have : n = a := by
          rename_i h1 h2
          exact UInt64.le_antisymm (UInt64.not_lt.1 h2) (UInt64.not_lt.1 h1)
        subst this
        simp
theorem risesU_ins {n : UInt64} {l : List UInt64} (h : risesU l = true) : risesU (insU n l) = true := by
  induction l with
  | nil => rfl
  | cons a l ih =>
    simp only [insU]
    split
    · rename_i h1
      rw [risesU_cons]
      exact ⟨fun b hb => by simp at hb; subst hb; exact h1, h⟩
    · split
      · rename_i h1 h2
        rw [risesU_cons] at h ⊢
        refine ⟨fun b hb => ?_, ih h.2⟩
        have hm : b ∈ insU n l := List.mem_of_mem_head? hb
        rcases mem_insU.1 hm with rfl | hm
        · exact h2
        · exact risesU_all (risesU_cons.2 h) b hm
      · exact h
theorem risesU_ofE {acc l : List UInt64} (h : risesU acc = true) : risesU (ofE acc l) = true := by
  induction l generalizing acc with
  | nil => exact h
  | cons a l ih => exact ih (risesU_ins h)
theorem mem_ofE {acc l : List UInt64} {b : UInt64} : b ∈ ofE acc l ↔ b ∈ acc ∨ b ∈ l := by
  induction l generalizing acc with
  | nil => simp [ofE]
  | cons a l ih =>
    show b ∈ ofE (insU a acc) l ↔ _
    rw [ih, mem_insU, List.mem_cons]
    grind
/-- rising lists of the same numbers are the same -/
theorem rises_ext {l m : List UInt64} (hl : risesU l = true) (hm : risesU m = true) (h : ∀ b, b ∈ l ↔ b ∈ m) : l = m := by
  induction l generalizing m with
  | nil =>
    cases m with
    | nil => rfl
    | cons a m => exact absurd ((h a).2 (by simp)) (by simp)
  | cons a l ih =>
    cases m with
    | nil => exact absurd ((h a).1 (by simp)) (by simp)
    | cons c m =>
      have h1 := risesU_all hl
      have h2 := risesU_all hm
      have e : a = c := by
        rcases List.mem_cons.1 ((h a).1 (by simp)) with e | e
        · exact e
        · rcases List.mem_cons.1 ((h c).2 (by simp)) with e' | e'
          · exact e'.symm
          · exact absurd (UInt64.lt_trans (h1 c e') (h2 a e)) (UInt64.lt_irrefl _)
      subst e
      refine congrArg _ (ih (risesU_cons.1 hl).2 (risesU_cons.1 hm).2 fun b => ⟨fun hb => ?_, fun hb => ?_⟩)
      · rcases List.mem_cons.1 ((h b).1 (by simp [hb])) with e | e
        · subst e; exact absurd (h1 b hb) (UInt64.lt_irrefl _)
        · exact e
      · rcases List.mem_cons.1 ((h b).2 (by simp [hb])) with e | e
        · subst e; exact absurd (h2 b hb) (UInt64.lt_irrefl _)
        · exact e
/-- the place of a number in a rising list -/
theorem insU_at {l : List UInt64} {n : UInt64} {k : Nat} (hr : risesU l = true) (hk : k ≤ l.length) (h1 : ∀ i a, i < k → l[i]? = some a → a < n) (h2 : ∀ a, l[k]? = some a → ¬ a < n) :
    insU n l = if l[k]? = some n then l else l.take k ++ n :: l.drop k := by
  induction l generalizing k with
  | nil => obtain rfl : k = 0 := by simpa using hk
           simp [insU]
  | cons a l ih =>
    cases k with
    | zero =>
      have h3 := h2 a (by simp)
      simp only [insU]
      by_cases h4 : n < a
      · rw [if_pos h4, if_neg (by simp; rintro rfl; exact UInt64.lt_irrefl _ h4)]
        simp
      · have : a = n := UInt64.le_antisymm (UInt64.not_lt.1 h4) (UInt64.not_lt.1 h3)
        subst this
        simp
    | succ k =>
      have h3 := h1 0 a (by omega) (by simp)
      have h4 : ¬ n < a := fun h => UInt64.lt_irrefl _ (UInt64.lt_trans h h3)
      simp only [insU, if_neg h4, if_pos h3]
      rw [ih (risesU_cons.1 hr).2 (by simpa using hk) (fun i b hi hb => h1 (i + 1) b (by omega) (by simpa using hb)) (fun b hb => h2 b (by simpa using hb))]
      simp only [List.getElem?_cons_succ, List.take_succ_cons, List.drop_succ_cons]
      split <;> simp
/-! ### registers -/
def placeR (bits : Nat) (n : UInt64) : Nat := n.toNat / 2 ^ (64 - bits)
def restR (bits : Nat) (n : UInt64) : Nat := n.toNat * 2 ^ bits % 18446744073709551616
def rankR (bits : Nat) (n : UInt64) : Nat := if restR bits n = 0 then 65 - bits else 64 - Nat.log2 (restR bits n)
def maxB (a b : UInt8) : UInt8 := if a ≤ b then b else a
def addR (bits : Nat) (r : List UInt8) (n : UInt64) : List UInt8 := r.modify (placeR bits n) fun a => maxB a (UInt8.ofNat (rankR bits n))
def addsR (bits : Nat) (r : List UInt8) (l : List UInt64) : List UInt8 := l.foldl (addR bits) r
def newR (bits : Nat) : List UInt8 := List.replicate (2 ^ bits) 0
def ofR (bits : Nat) (l : List UInt64) : List UInt8 := addsR bits (newR bits) l
def mergeR (a b : List UInt8) : List UInt8 := List.zipWith maxB a b
def low1 (a b : UInt8) : UInt8 := if 0 < a then a + 1 else if b ≤ 1 then b else 1
def lowR : List UInt8 → List UInt8
  | a :: b :: l => low1 a b :: lowR l
  | _ => []
/-! ### counters -/
def satP (a b : UInt64) : UInt64 := UInt64.ofNat (min (a.toNat + b.toNat) 18446744073709551615)
def colC (cols row : Nat) (h : UInt64) : Nat := (h.toNat / 4294967296 + row * (h.toNat % 4294967296)) % 18446744073709551616 % cols
def addC (cols : Nat) (h n : UInt64) (l : List UInt64) (r : Nat) : List UInt64 := l.modify (r * cols + colC cols r h) fun a => satP a n
def addsC (rows cols : Nat) (h n : UInt64) (l : List UInt64) : List UInt64 := (List.range rows).foldl (addC cols h n) l
def mergeC (a b : List UInt64) : List UInt64 := List.zipWith satP a b
/-- half as many columns -/
def lowC (rows cols : Nat) (l : List UInt64) : List UInt64 := (List.range rows).flatMap fun r => (List.range (cols / 2)).map fun c => satP (l.getD (r * cols + c) 0) (l.getD (r * cols + c + cols / 2) 0)
/-! ### histograms -/
/-- n more in a bucket -/
def putG (at_ : Int) (n : UInt64) : List Bin → List Bin
  | [] => if n = 0 then [] else [⟨at_, n⟩]
  | b :: l => if at_ < b.at_ then (if n = 0 then b :: l else ⟨at_, n⟩ :: b :: l) else if b.at_ < at_ then b :: putG at_ n l else (if satP b.n n = 0 then l else ⟨at_, satP b.n n⟩ :: l)
def putsG (l m : List Bin) : List Bin := m.foldl (fun l b => putG b.at_ b.n l) l
def lowG (l : List Bin) : List Bin := l.foldl (fun m b => putG ((b.at_ + 1).tdiv 2) b.n m) []
end Go.Proofs.YtikjigkkhdkibaaGreatDoor.W

/- What sketches of items are: laws of registers, counters, histograms. Plain lists; of no program. -/
namespace Go.Proofs.YtikjigkkhdkibaaGreatDoor.W
/-! ### registers -/
def SupR (bits : Nat) (S : List UInt64) (p v : Nat) : Prop := (∀ n ∈ S, placeR bits n = p → rankR bits n ≤ v) ∧ (v = 0 ∨ ∃ n ∈ S, placeR bits n = p ∧ rankR bits n = v)
structure IsRegs (bits : Nat) (S : List UInt64) (r : List UInt8) : Prop where
  len : r.length = 2 ^ bits
  sup : ∀ p u, r[p]? = some u → SupR bits S p u.toNat
theorem SupR.uniq {bits p v w : Nat} {S T : List UInt64} (h : SupR bits S p v) (k : SupR bits T p w) (hST : ∀ n, n ∈ S ↔ n ∈ T) : v = w := by
  have h1 : v ≤ w := by
    rcases h.2 with h2 | ⟨n, hn, hp, hv⟩
    · omega
    · have := k.1 n ((hST n).1 hn) hp; omega
  have h2 : w ≤ v := by
    rcases k.2 with h2 | ⟨n, hn, hp, hv⟩
    · omega
    · have := h.1 n ((hST n).2 hn) hp; omega
  omega
theorem IsRegs.uniq {bits : Nat} {S T : List UInt64} {r s : List UInt8} (h : IsRegs bits S r) (k : IsRegs bits T s) (hST : ∀ n, n ∈ S ↔ n ∈ T) : r = s := by
  refine List.ext_getElem? fun p => ?_
  by_cases hp : p < 2 ^ bits
  · have h1 : p < r.length := by rw [h.len]; exact hp
    have h2 : p < s.length := by rw [k.len]; exact hp
    rw [List.getElem?_eq_getElem h1, List.getElem?_eq_getElem h2]
    exact congrArg some (UInt8.toNat_inj.1 ((h.sup p _ (List.getElem?_eq_getElem h1)).uniq (k.sup p _ (List.getElem?_eq_getElem h2)) hST))
  · rw [List.getElem?_eq_none (by rw [h.len]; omega), List.getElem?_eq_none (by rw [k.len]; omega)]
theorem IsRegs.new (bits : Nat) : IsRegs bits [] (newR bits) := by
  refine ⟨by simp [newR], fun p u hu => ⟨by simp, .inl ?_⟩⟩
  rw [newR, List.getElem?_replicate] at hu
  split at hu
  · cases hu; rfl
  · cases hu
theorem restR_lt (bits : Nat) (n : UInt64) : restR bits n < 2 ^ 64 := Nat.mod_lt _ (by decide)
theorem rankR_le {bits : Nat} (n : UInt64) (hb : bits ≤ 64) : rankR bits n ≤ 65 := by
  unfold rankR
  split <;> omega
theorem maxB_nat (a b : UInt8) : (maxB a b).toNat = max a.toNat b.toNat := by
  unfold maxB
  split
  · rename_i h; have := UInt8.le_iff_toNat_le.1 h; omega
  · rename_i h
    have : ¬ a.toNat ≤ b.toNat := fun k => h (UInt8.le_iff_toNat_le.2 k)
    omega
theorem rank_nat {bits : Nat} (n : UInt64) (hb : bits ≤ 64) : (UInt8.ofNat (rankR bits n)).toNat = rankR bits n := by
  rw [UInt8.toNat_ofNat']
  have := rankR_le n hb
  omega
theorem SupR.add {bits p v : Nat} {S S' : List UInt64} {n : UInt64} (h : SupR bits S p v) (hS : ∀ x, x ∈ S' ↔ x ∈ S ∨ x = n) (hp : placeR bits n = p) : SupR bits S' p (max v (rankR bits n)) := by
  refine ⟨fun x hx hxp => ?_, ?_⟩
  · rcases (hS x).1 hx with hx | rfl
    · have := h.1 x hx hxp; omega
    · omega
  · rcases Nat.le_total v (rankR bits n) with hv | hv
    · exact .inr ⟨n, (hS n).2 (.inr rfl), hp, by omega⟩
    · rcases h.2 with h0 | ⟨x, hx, hxp, hxv⟩
      · exact .inl (by omega)
      · exact .inr ⟨x, (hS x).2 (.inl hx), hxp, by omega⟩
theorem SupR.skip {bits p v : Nat} {S S' : List UInt64} {n : UInt64} (h : SupR bits S p v) (hS : ∀ x, x ∈ S' ↔ x ∈ S ∨ x = n) (hp : placeR bits n ≠ p) : SupR bits S' p v := by
  refine ⟨fun x hx hxp => ?_, h.2.imp id fun ⟨x, hx, h1⟩ => ⟨x, (hS x).2 (.inl hx), h1⟩⟩
  rcases (hS x).1 hx with hx | rfl
  · exact h.1 x hx hxp
  · exact absurd hxp hp
theorem IsRegs.add {bits : Nat} {S S' : List UInt64} {r : List UInt8} {n : UInt64} (hb : bits ≤ 64) (h : IsRegs bits S r) (hS : ∀ x, x ∈ S' ↔ x ∈ S ∨ x = n) : IsRegs bits S' (addR bits r n) := by
  refine ⟨by rw [addR, List.length_modify, h.len], fun p u hu => ?_⟩
  rw [addR, List.getElem?_modify] at hu
  obtain ⟨a, ha, rfl⟩ := Option.map_eq_some_iff.1 hu
  split
  · rename_i hp
    rw [maxB_nat, rank_nat n hb]
    exact (h.sup p a ha).add hS hp
  · rename_i hp
    exact (h.sup p a ha).skip hS hp
theorem IsRegs.adds {bits : Nat} {S : List UInt64} {r : List UInt8} (hb : bits ≤ 64) (h : IsRegs bits S r) (l : List UInt64) : IsRegs bits (S ++ l) (addsR bits r l) := by
  induction l generalizing S r with
  | nil => simpa [addsR] using h
  | cons n l ih =>
    have h1 := ih (h.add (n := n) (S' := S ++ [n]) hb (fun x => by simp))
    simpa [addsR] using h1
theorem IsRegs.of {bits : Nat} (hb : bits ≤ 64) (l : List UInt64) : IsRegs bits l (ofR bits l) := by
  simpa [ofR] using (IsRegs.new bits).adds hb l
theorem IsRegs.merge {bits : Nat} {S T : List UInt64} {r s : List UInt8} (h : IsRegs bits S r) (k : IsRegs bits T s) : IsRegs bits (S ++ T) (mergeR r s) := by
  refine ⟨by rw [mergeR, List.length_zipWith, h.len, k.len, Nat.min_self], fun p u hu => ?_⟩
  rw [mergeR, List.getElem?_zipWith] at hu
  split at hu
  · rename_i a b ha hb
    cases hu
    rw [maxB_nat]
    have h1 := h.sup p a ha
    have h2 := k.sup p b hb
    refine ⟨fun x hx hxp => ?_, ?_⟩
    · rcases List.mem_append.1 hx with hx | hx
      · have := h1.1 x hx hxp; omega
      · have := h2.1 x hx hxp; omega
    · rcases Nat.le_total a.toNat b.toNat with hv | hv
      · rcases h2.2 with h0 | ⟨x, hx, hxp, hxv⟩
        · exact .inl (by omega)
        · exact .inr ⟨x, List.mem_append.2 (.inr hx), hxp, by omega⟩
      · rcases h1.2 with h0 | ⟨x, hx, hxp, hxv⟩
        · exact .inl (by omega)
        · exact .inr ⟨x, List.mem_append.2 (.inl hx), hxp, by omega⟩
  · cases hu
/-- a digit less -/
theorem place_low {b : Nat} (n : UInt64) (hb : b + 1 ≤ 64) : placeR b n = placeR (b + 1) n / 2 := by
  unfold placeR
  rw [Nat.div_div_eq_div_mul, show 64 - b = (64 - (b + 1)) + 1 by omega, Nat.pow_succ]
theorem rest_eq {b : Nat} (n : UInt64) (hb : b ≤ 64) : restR b n = n.toNat % 2 ^ (64 - b) * 2 ^ b := by
  unfold restR
  have e : (18446744073709551616 : Nat) = 2 ^ (64 - b) * 2 ^ b := by rw [← Nat.pow_add, show 64 - b + b = 64 by omega]
  rw [e, Nat.mul_mod_mul_right]
theorem rest_low {b : Nat} (n : UInt64) (hb : b + 1 ≤ 64) : restR b n = placeR (b + 1) n % 2 * 2 ^ 63 + restR (b + 1) n / 2 := by
  rw [rest_eq n hb, rest_eq n (by omega : b ≤ 64)]
  unfold placeR
  have e1 : 2 ^ (64 - b) = 2 ^ (64 - (b + 1)) * 2 := by rw [← Nat.pow_succ]; congr 1; omega
  have e2 : (2 : Nat) ^ 63 = 2 ^ (64 - (b + 1)) * 2 ^ b := by rw [← Nat.pow_add]; congr 1; omega
  have e3 : n.toNat % 2 ^ (64 - (b + 1)) * 2 ^ (b + 1) / 2 = n.toNat % 2 ^ (64 - (b + 1)) * 2 ^ b := by
    rw [Nat.pow_succ, ← Nat.mul_assoc, Nat.mul_div_cancel _ (by omega)]
  have e4 : n.toNat % 2 ^ (64 - b) = n.toNat / 2 ^ (64 - (b + 1)) % 2 * 2 ^ (64 - (b + 1)) + n.toNat % 2 ^ (64 - (b + 1)) := by
    rw [e1, Nat.mod_mul, Nat.mul_comm]; omega
  rw [e3, e4, e2, Nat.add_mul, Nat.mul_assoc]
theorem rank_low {b : Nat} (n : UInt64) (hb : b + 1 ≤ 63) : rankR b n = if placeR (b + 1) n % 2 = 0 then rankR (b + 1) n + 1 else 1 := by
  have h0 := rest_low n (show b + 1 ≤ 64 by omega)
  have h1 : restR (b + 1) n < 2 ^ 64 := restR_lt _ _
  have h2 : restR (b + 1) n % 2 = 0 := by
    rw [rest_eq n (by omega), Nat.pow_succ, ← Nat.mul_assoc]; omega
  by_cases hp : placeR (b + 1) n % 2 = 0
  · rw [if_pos hp]
    rw [hp, Nat.zero_mul, Nat.zero_add] at h0
    unfold rankR
    by_cases hz : restR (b + 1) n = 0
    · rw [if_pos hz, if_pos (by rw [h0, hz])]; omega
    · have hd : restR b n ≠ 0 := by omega
      rw [if_neg hz, if_neg hd, h0]
      have e : Nat.log2 (restR (b + 1) n) = Nat.log2 (restR (b + 1) n / 2) + 1 := by
        rw [Nat.log2_def, if_pos (by omega)]
      have h3 : Nat.log2 (restR (b + 1) n) < 64 := (Nat.log2_lt hz).2 h1
      omega
  · rw [if_neg hp]
    have hp1 : placeR (b + 1) n % 2 = 1 := by omega
    rw [hp1, Nat.one_mul] at h0
    have hd : restR b n ≠ 0 := by omega
    unfold rankR
    rw [if_neg hd]
    have h3 : Nat.log2 (restR b n) = 63 := by
      rw [Nat.log2_eq_iff hd]
      have := restR_lt b n
      omega
    omega
theorem rankR_pos {b : Nat} (n : UInt64) (hb : b ≤ 64) : 1 ≤ rankR b n := by
  unfold rankR
  split
  · omega
  · rename_i h
    have := (Nat.log2_lt h).2 (restR_lt b n)
    omega
theorem lowR_len : ∀ r : List UInt8, (lowR r).length = r.length / 2
  | [] => rfl
  | [_] => by simp [lowR]
  | a :: b :: l => by
    have := lowR_len l
    simp only [lowR, List.length_cons, this]; omega
theorem lowR_at : ∀ {r : List UInt8} {i : Nat} {a b : UInt8}, r[2 * i]? = some a → r[2 * i + 1]? = some b → (lowR r)[i]? = some (low1 a b)
  | [], i, a, b, h, _ => by simp at h
  | [x], i, a, b, h, k => by
    simp at k
  | x :: y :: l, 0, a, b, h, k => by simp at h k; subst h k; simp [lowR]
  | x :: y :: l, i + 1, a, b, h, k => by
    have e : 2 * (i + 1) = 2 * i + 1 + 1 := by omega
    rw [e] at h k
    simp only [List.getElem?_cons_succ] at h k
    simp only [lowR, List.getElem?_cons_succ]
    exact lowR_at h k
theorem IsRegs.low {b : Nat} {S : List UInt64} {r : List UInt8} (hb : b + 1 ≤ 63) (h : IsRegs (b + 1) S r) (hs : ∀ (p : Nat) u, r[p]? = some u → u.toNat ≤ 200) : IsRegs b S (lowR r) := by
  refine ⟨by rw [lowR_len, h.len, Nat.pow_succ]; omega, fun p u hu => ?_⟩
  have hp : p < (lowR r).length := (List.getElem?_eq_some_iff.1 hu).1
  rw [lowR_len] at hp
  have e0 : r[2 * p]? = some r[2 * p] := List.getElem?_eq_getElem (by omega)
  have e1 : r[2 * p + 1]? = some r[2 * p + 1] := List.getElem?_eq_getElem (by omega)
  generalize ha : r[2 * p] = a at e0
  generalize hc : r[2 * p + 1] = c at e1
  rw [lowR_at e0 e1] at hu
  cases hu
  have s0 := h.sup _ _ e0
  have s1 := h.sup _ _ e1
  have hpl : ∀ n, placeR b n = p → placeR (b + 1) n = 2 * p ∨ placeR (b + 1) n = 2 * p + 1 := fun n hn => by rw [place_low n (by omega)] at hn; omega
  have hval : (low1 a c).toNat = if 0 < a.toNat then a.toNat + 1 else min c.toNat 1 := by
    have := hs _ _ e0
    unfold low1
    have hz : (0 < a) ↔ 0 < a.toNat := UInt8.lt_iff_toNat_lt
    by_cases h0 : 0 < a.toNat
    · rw [if_pos (hz.2 h0), if_pos h0, UInt8.toNat_add]
      show (a.toNat + 1) % 256 = _
      omega
    · rw [if_neg (fun k => h0 (hz.1 k)), if_neg h0]
      split
      · rename_i h1; have := UInt8.le_iff_toNat_le.1 h1
        have e : (1 : UInt8).toNat = 1 := rfl
        omega
      · rename_i h1
        have : ¬ c.toNat ≤ 1 := fun k => h1 (UInt8.le_iff_toNat_le.2 k)
        have e : (1 : UInt8).toNat = 1 := rfl
        omega
  rw [hval]
  refine ⟨fun n hn hnp => ?_, ?_⟩
  · rw [rank_low n hb]
    rcases hpl n hnp with hq | hq
    · have h1 := s0.1 n hn hq
      have h2 := rankR_pos (b := b + 1) n (by omega)
      rw [if_pos (by omega), if_pos (by omega)]; omega
    · have h1 := s1.1 n hn hq
      have h2 := rankR_pos (b := b + 1) n (by omega)
      rw [if_neg (by omega)]
      split <;> omega
  · by_cases h0 : 0 < a.toNat
    · rw [if_pos h0]
      rcases s0.2 with hz | ⟨n, hn, hq, hv⟩
      · omega
      · exact .inr ⟨n, hn, by rw [place_low n (by omega)]; omega, by rw [rank_low n hb, if_pos (by omega)]; omega⟩
    · rw [if_neg h0]
      rcases s1.2 with hz | ⟨n, hn, hq, hv⟩
      · exact .inl (by omega)
      · have h2 := rankR_pos (b := b + 1) n (by omega)
        exact .inr ⟨n, hn, by rw [place_low n (by omega)]; omega, by rw [rank_low n hb, if_neg (by omega)]; omega⟩
end Go.Proofs.YtikjigkkhdkibaaGreatDoor.W

/- What sketches of items are: counters, histograms. Plain lists; of no program. -/
namespace Go.Proofs.YtikjigkkhdkibaaGreatDoor.W
structure Itm where
  h : UInt64
  n : UInt64
  deriving DecidableEq
def capN (x : Nat) : Nat := min x 18446744073709551615
theorem satP_nat (a b : UInt64) : (satP a b).toNat = capN (a.toNat + b.toNat) := by
  unfold satP capN
  rw [UInt64.toNat_ofNat']
  omega
theorem capN_u (a : UInt64) : capN a.toNat = a.toNat := by
  have := a.toNat_lt
  unfold capN; omega
theorem capN_add (x y : Nat) : capN (capN x + y) = capN (x + y) := by unfold capN; omega
theorem capN_add2 (x y : Nat) : capN (capN x + capN y) = capN (x + y) := by unfold capN; omega
theorem capN_capN (x : Nat) : capN (capN x) = capN x := by unfold capN; omega
/-- the sum of what is so -/
def cnt (q : Itm → Bool) (S : List Itm) : Nat := (S.map fun i => if q i then i.n.toNat else 0).sum
theorem cnt_append (q : Itm → Bool) (S T : List Itm) : cnt q (S ++ T) = cnt q S + cnt q T := by simp [cnt]
theorem cnt_one (q : Itm → Bool) (i : Itm) : cnt q [i] = if q i then i.n.toNat else 0 := by simp [cnt]
theorem cnt_perm (q : Itm → Bool) {S T : List Itm} (h : S.Perm T) : cnt q S = cnt q T := (h.map _).sum_nat
theorem cnt_or {q q1 q2 : Itm → Bool} (h : ∀ i, q i = (q1 i || q2 i)) (hd : ∀ i, ¬ (q1 i = true ∧ q2 i = true)) (S : List Itm) : cnt q S = cnt q1 S + cnt q2 S := by
  induction S with
  | nil => rfl
  | cons i S ih =>
    have e : ∀ q, cnt q (i :: S) = (if q i then i.n.toNat else 0) + cnt q S := fun q => by simp [cnt]
    rw [e, e, e, ih, h i]
    have := hd i
    rcases h1 : q1 i with _ | _ <;> rcases h2 : q2 i with _ | _ <;> simp [h1, h2] at this ⊢ <;> omega
/-! ### counters -/
structure IsCells (rows cols : Nat) (S : List Itm) (l : List UInt64) : Prop where
  len : l.length = rows * cols
  sum : ∀ r c u, r < rows → c < cols → l[r * cols + c]? = some u → u.toNat = capN (cnt (fun i => decide (colC cols r i.h = c)) S)
theorem cell_lt {r c rows cols : Nat} (hr : r < rows) (hc : c < cols) : r * cols + c < rows * cols := by
  have : (r + 1) * cols ≤ rows * cols := Nat.mul_le_mul_right _ hr
  rw [Nat.succ_mul] at this
  omega
theorem cell_dm {p rows cols : Nat} (h : p < rows * cols) : p / cols < rows ∧ p % cols < cols ∧ p / cols * cols + p % cols = p := by
  have h0 : 0 < cols := by
    rcases Nat.eq_zero_or_pos cols with h1 | h1
    · rw [h1] at h; omega
    · exact h1
  exact ⟨(Nat.div_lt_iff_lt_mul h0).2 h, Nat.mod_lt _ h0, Nat.div_add_mod' p cols⟩
theorem IsCells.uniq {rows cols : Nat} {S T : List Itm} {l m : List UInt64} (h : IsCells rows cols S l) (k : IsCells rows cols T m) (hST : S.Perm T) : l = m := by
  refine List.ext_getElem? fun p => ?_
  by_cases hp : p < rows * cols
  · have h1 : p < l.length := by rw [h.len]; exact hp
    have h2 : p < m.length := by rw [k.len]; exact hp
    obtain ⟨c1, c2, c3⟩ := cell_dm hp
    have e1 := h.sum (p / cols) (p % cols) l[p] c1 c2 (by rw [c3]; exact List.getElem?_eq_getElem h1)
    have e2 := k.sum (p / cols) (p % cols) m[p] c1 c2 (by rw [c3]; exact List.getElem?_eq_getElem h2)
    rw [List.getElem?_eq_getElem h1, List.getElem?_eq_getElem h2]
    refine congrArg some (UInt64.toNat_inj.1 ?_)
    rw [e1, e2, cnt_perm _ hST]
  · rw [List.getElem?_eq_none (by rw [h.len]; omega), List.getElem?_eq_none (by rw [k.len]; omega)]
theorem IsCells.new (rows cols : Nat) : IsCells rows cols [] (List.replicate (rows * cols) 0) := by
  refine ⟨by simp, fun r c u hr hc hu => ?_⟩
  rw [List.getElem?_replicate] at hu
  split at hu
  · cases hu; rfl
  · cases hu
theorem colC_lt {cols : Nat} (r : Nat) (h : UInt64) (h0 : 0 < cols) : colC cols r h < cols := Nat.mod_lt _ h0
theorem cell_inj {cols r r' c c' : Nat} (hc : c < cols) (hc' : c' < cols) (h : r * cols + c = r' * cols + c') : r = r' ∧ c = c' := by
  have e1 : (r * cols + c) / cols = r := by rw [Nat.mul_comm, Nat.mul_add_div (by omega), Nat.div_eq_of_lt hc]; omega
  have e2 : (r' * cols + c') / cols = r' := by rw [Nat.mul_comm, Nat.mul_add_div (by omega), Nat.div_eq_of_lt hc']; omega
  have : r = r' := by rw [← e1, ← e2, h]
  subst this
  exact ⟨rfl, by omega⟩
theorem addsC_len (rows cols : Nat) (h n : UInt64) (l : List UInt64) : (addsC rows cols h n l).length = l.length := by
  unfold addsC
  induction rows with
  | zero => rfl
  | succ k ih => rw [List.range_succ, List.foldl_append]; simp only [List.foldl_cons, List.foldl_nil, addC, List.length_modify]; exact ih
theorem addsC_at {rows cols : Nat} (h n : UInt64) (l : List UInt64) {r c : Nat} (hc : c < cols) :
    (addsC rows cols h n l)[r * cols + c]? = (l[r * cols + c]?).map fun a => if r < rows ∧ colC cols r h = c then satP a n else a := by
  unfold addsC
  induction rows with
  | zero => simp
  | succ k ih =>
    rw [List.range_succ, List.foldl_append]
    simp only [List.foldl_cons, List.foldl_nil]
    rw [addC, List.getElem?_modify, ih, Option.map_eq_map, Option.map_map]
    congr 1
    funext a
    have hk := colC_lt k h (show 0 < cols by omega)
    simp only [Function.comp_apply]
    by_cases hr : k * cols + colC cols k h = r * cols + c
    · obtain ⟨rfl, e⟩ := cell_inj hk hc hr
      rw [if_pos hr, if_neg (by omega), if_pos ⟨by omega, e⟩]
    · rw [if_neg hr]
      by_cases hr2 : r < k ∧ colC cols r h = c
      · rw [if_pos hr2, if_pos ⟨by omega, hr2.2⟩]
      · rw [if_neg hr2, if_neg]
        rintro ⟨h1, h2⟩
        rcases Nat.lt_or_ge r k with h3 | h3
        · exact hr2 ⟨h3, h2⟩
        · obtain rfl : r = k := by omega
          exact hr (by rw [h2])
theorem IsCells.add {rows cols : Nat} {S : List Itm} {l : List UInt64} (h : IsCells rows cols S l) (i : Itm) : IsCells rows cols (S ++ [i]) (addsC rows cols i.h i.n l) := by
  refine ⟨by rw [addsC_len, h.len], fun r c u hr hc hu => ?_⟩
  rw [addsC_at _ _ _ hc] at hu
  obtain ⟨a, ha, rfl⟩ := Option.map_eq_some_iff.1 hu
  have h1 := h.sum r c a hr hc ha
  rw [cnt_append, cnt_one]
  by_cases hq : colC cols r i.h = c
  · rw [if_pos ⟨hr, hq⟩, if_pos (by simpa using hq), satP_nat, h1, capN_add]
  · rw [if_neg (fun k => hq k.2), if_neg (by simpa using hq), Nat.add_zero, h1]
theorem IsCells.merge {rows cols : Nat} {S T : List Itm} {l m : List UInt64} (h : IsCells rows cols S l) (k : IsCells rows cols T m) : IsCells rows cols (S ++ T) (mergeC l m) := by
  refine ⟨by rw [mergeC, List.length_zipWith, h.len, k.len, Nat.min_self], fun r c u hr hc hu => ?_⟩
  rw [mergeC, List.getElem?_zipWith] at hu
  split at hu
  · rename_i a b ha hb
    cases hu
    rw [satP_nat, h.sum r c a hr hc ha, k.sum r c b hr hc hb, capN_add2, cnt_append]
  · cases hu
theorem flat_at {α : Type} {f : Nat → List α} {m : Nat} (hf : ∀ r, (f r).length = m) {rows r c : Nat} (hr : r < rows) (hc : c < m) : ((List.range rows).flatMap f)[r * m + c]? = (f r)[c]? := by
  induction rows with
  | zero => omega
  | succ k ih =>
    have hl : ∀ k, ((List.range k).flatMap f).length = k * m := by
      intro k
      induction k with
      | zero => simp
      | succ k ih => rw [List.range_succ, List.flatMap_append, List.length_append, ih]; simp [hf, Nat.succ_mul]
    rw [List.range_succ, List.flatMap_append]
    rcases Nat.lt_or_ge r k with h | h
    · rw [List.getElem?_append_left (by rw [hl]; exact cell_lt h hc)]
      exact ih h
    · obtain rfl : r = k := by omega
      rw [List.getElem?_append_right (by rw [hl]; omega), hl]
      simp [show r * m + c - r * m = c by omega]
theorem lowC_len {rows cols : Nat} {l : List UInt64} : (lowC rows cols l).length = rows * (cols / 2) := by
  unfold lowC
  induction rows with
  | zero => simp
  | succ k ih => rw [List.range_succ, List.flatMap_append, List.length_append, ih]; simp [Nat.succ_mul]
theorem colC_half {cols r c : Nat} {h : UInt64} {half : Nat} (he : cols = 2 * half) (hc : c < half) : colC half r h = c ↔ (colC cols r h = c ∨ colC cols r h = c + half) := by
  unfold colC
  subst he
  generalize (h.toNat / 4294967296 + r * (h.toNat % 4294967296)) % 18446744073709551616 = x
  have e : x % half = x % (2 * half) % half := by rw [Nat.mul_comm, Nat.mod_mul_right_mod]
  have hl : x % (2 * half) < 2 * half := Nat.mod_lt _ (by omega)
  rw [e]
  generalize x % (2 * half) = y at hl ⊢
  constructor
  · intro h1
    rcases Nat.lt_or_ge y half with h2 | h2
    · rw [Nat.mod_eq_of_lt h2] at h1; exact .inl h1
    · rw [Nat.mod_eq_sub_mod h2, Nat.mod_eq_of_lt (by omega)] at h1; right; omega
  · rintro (h1 | h1)
    · subst h1; exact Nat.mod_eq_of_lt hc
    · rw [h1, Nat.add_mod_right, Nat.mod_eq_of_lt hc]
theorem IsCells.low {rows cols half : Nat} {S : List Itm} {l : List UInt64} (he : cols = 2 * half) (h : IsCells rows cols S l) : IsCells rows half S (lowC rows cols l) := by
  have hh : cols / 2 = half := by omega
  refine ⟨by rw [lowC_len, hh], fun r c u hr hc hu => ?_⟩
  unfold lowC at hu
  rw [hh, flat_at (m := half) (fun r => by simp) hr hc, List.getElem?_map, List.getElem?_range hc] at hu
  simp only [Option.map_some, Option.some.injEq] at hu
  subst hu
  have b1 : r * cols + c < l.length := by rw [h.len]; exact cell_lt hr (by omega)
  have b2 : r * cols + (c + half) < l.length := by rw [h.len]; exact cell_lt hr (by omega)
  have g1 : l[r * cols + c]? = some (l.getD (r * cols + c) 0) := by rw [List.getD_eq_getElem?_getD, List.getElem?_eq_getElem b1]; rfl
  have g2 : l[r * cols + (c + half)]? = some (l.getD (r * cols + c + half) 0) := by rw [List.getD_eq_getElem?_getD, show r * cols + c + half = r * cols + (c + half) by omega, List.getElem?_eq_getElem b2]; rfl
  rw [satP_nat, h.sum r c _ hr (by omega) g1, h.sum r (c + half) _ hr (by omega) g2, capN_add2]
  congr 1
  symm
  refine cnt_or (fun i => ?_) (fun i => ?_) S
  · rw [Bool.eq_iff_iff, Bool.or_eq_true]
    simp only [decide_eq_true_eq]
    exact colC_half he hc
  · simp only [decide_eq_true_eq]; omega
/-! ### histograms -/
def lookG : List Bin → Int → Nat
  | [], _ => 0
  | x :: l, b => if x.at_ = b then x.n.toNat else lookG l b
structure RightG (l : List Bin) : Prop where
  rise : l.Pairwise fun a b => a.at_ < b.at_
  some_ : ∀ b ∈ l, b.n ≠ 0
theorem look_none {l : List Bin} {b : Int} (h : ∀ x ∈ l, x.at_ ≠ b) : lookG l b = 0 := by
  induction l with
  | nil => rfl
  | cons x l ih => rw [lookG, if_neg (h x (by simp))]; exact ih fun y hy => h y (by simp [hy])
theorem RightG.tail {x : Bin} {l : List Bin} (h : RightG (x :: l)) : RightG l := ⟨(List.pairwise_cons.1 h.rise).2, fun b hb => h.some_ b (by simp [hb])⟩
theorem RightG.head {x : Bin} {l : List Bin} (h : RightG (x :: l)) : ∀ b ∈ l, x.at_ < b.at_ := (List.pairwise_cons.1 h.rise).1
theorem look_tail {x : Bin} {l : List Bin} (h : RightG (x :: l)) {b : Int} (hb : b ≤ x.at_) : lookG l b = 0 := look_none fun y hy => by have := h.head y hy; omega
theorem look_some {x : Bin} {l : List Bin} (h : RightG l) (hx : x ∈ l) : lookG l x.at_ = x.n.toNat := by
  induction l with
  | nil => simp at hx
  | cons y l ih =>
    rw [lookG]
    rcases List.mem_cons.1 hx with rfl | hx
    · rw [if_pos rfl]
    · have := h.head x hx
      rw [if_neg (by omega)]
      exact ih h.tail hx
theorem look_pos {l : List Bin} {b : Int} (h : lookG l b ≠ 0) : ∃ x ∈ l, x.at_ = b := by
  induction l with
  | nil => exact absurd rfl h
  | cons x l ih =>
    rw [lookG] at h
    split at h
    · rename_i e; exact ⟨x, by simp, e⟩
    · obtain ⟨y, hy, e⟩ := ih h; exact ⟨y, by simp [hy], e⟩
theorem nat_pos {x : UInt64} (h : x ≠ 0) : x.toNat ≠ 0 := fun e => h (UInt64.toNat_inj.1 e)
theorem RightG.ext {l m : List Bin} (hl : RightG l) (hm : RightG m) (h : ∀ b, lookG l b = lookG m b) : l = m := by
  induction l generalizing m with
  | nil =>
    cases m with
    | nil => rfl
    | cons y m =>
      have := h y.at_
      rw [look_some hm (by simp)] at this
      exact absurd this.symm (nat_pos (hm.some_ y (by simp)))
  | cons x l ih =>
    cases m with
    | nil =>
      have := h x.at_
      rw [look_some hl (by simp)] at this
      exact absurd this (nat_pos (hl.some_ x (by simp)))
    | cons y m =>
      have hx := h x.at_
      have hy := h y.at_
      rw [look_some hl (by simp)] at hx
      rw [look_some hm (by simp)] at hy
      have px := nat_pos (hl.some_ x (by simp))
      have py := nat_pos (hm.some_ y (by simp))
      have e : x.at_ = y.at_ := by
        rcases Int.lt_trichotomy x.at_ y.at_ with k | k | k
        · rw [lookG, if_neg (by omega), look_tail hm (by omega)] at hx; exact absurd hx px
        · exact k
        · rw [lookG, if_neg (by omega), look_tail hl (by omega)] at hy; exact absurd hy.symm py
      have en : x.n = y.n := by
        rw [e, look_some hm (by simp)] at hx
        exact UInt64.toNat_inj.1 hx
      have exy : x = y := Bin.eq_iff.2 ⟨e, en⟩
      subst exy
      refine congrArg _ (ih hl.tail hm.tail fun b => ?_)
      by_cases hb : b ≤ x.at_
      · rw [look_tail hl hb, look_tail hm hb]
      · have := h b
        rwa [lookG, lookG, if_neg (by omega), if_neg (by omega)] at this
theorem putG_mem {at_ : Int} {n : UInt64} {l : List Bin} {b : Bin} (h : b ∈ putG at_ n l) : b.at_ = at_ ∨ b ∈ l := by
  induction l with
  | nil =>
    simp only [putG] at h
    split at h
    · simp at h
    · simp at h; left; rw [h]
  | cons x l ih =>
    simp only [putG] at h
    split at h
    · split at h
      · exact .inr h
      · rcases List.mem_cons.1 h with h | h
        · left; rw [h]
        · exact .inr h
    · split at h
      · rcases List.mem_cons.1 h with h | h
        · right; simp [h]
        · rcases ih h with h | h
          · exact .inl h
          · right; simp [h]
      · split at h
        · right; simp [h]
        · rcases List.mem_cons.1 h with h | h
          · left; rw [h]
          · right; simp [h]
theorem satP_pos {a b : UInt64} (h : a ≠ 0 ∨ b ≠ 0) : satP a b ≠ 0 := by
  intro e
  have h1 := satP_nat a b
  rw [e] at h1
  have h2 : (0 : UInt64).toNat = 0 := rfl
  rw [h2] at h1
  unfold capN at h1
  rcases h with h | h
  · have := nat_pos h; omega
  · have := nat_pos h; omega
theorem putG_right {at_ : Int} {n : UInt64} {l : List Bin} (h : RightG l) : RightG (putG at_ n l) := by
  induction l with
  | nil =>
    simp only [putG]
    split
    · exact h
    · rename_i hn; exact ⟨by simp, fun b hb => by simp at hb; rw [hb]; exact hn⟩
  | cons x l ih =>
    simp only [putG]
    split
    · rename_i h1
      split
      · exact h
      · rename_i hn
        refine ⟨List.pairwise_cons.2 ⟨fun b hb => ?_, h.rise⟩, fun b hb => ?_⟩
        · rcases List.mem_cons.1 hb with rfl | hb
          · exact h1
          · have := h.head b hb; show at_ < b.at_; omega
        · rcases List.mem_cons.1 hb with rfl | hb
          · exact hn
          · exact h.some_ b hb
    · split
      · rename_i h1 h2
        have hi := ih h.tail
        refine ⟨List.pairwise_cons.2 ⟨fun b hb => ?_, hi.rise⟩, fun b hb => ?_⟩
        · rcases putG_mem hb with hb | hb
          · omega
          · exact h.head b hb
        · rcases List.mem_cons.1 hb with rfl | hb
          · exact h.some_ b (by simp)
          · exact hi.some_ b hb
      · rename_i h1 h2
        have e : x.at_ = at_ := by omega
        split
        · exact h.tail
        · rename_i h3
          refine ⟨List.pairwise_cons.2 ⟨fun b hb => ?_, h.tail.rise⟩, fun b hb => ?_⟩
          · have := h.head b hb; show at_ < b.at_; omega
          · rcases List.mem_cons.1 hb with rfl | hb
            · exact h3
            · exact h.some_ b (by simp [hb])
theorem look_put {at_ : Int} {n : UInt64} {l : List Bin} (h : RightG l) (b : Int) : lookG (putG at_ n l) b = if at_ = b then capN (lookG l b + n.toNat) else lookG l b := by
  have hz : ∀ n : UInt64, capN (0 + n.toNat) = n.toNat := fun n => by rw [Nat.zero_add, capN_u]
  have z0 : (0 : UInt64).toNat = 0 := rfl
  induction l with
  | nil =>
    simp only [putG]
    split
    · rename_i hn; subst hn; simp [lookG, capN]
    · simp only [lookG]
      split
      · rw [hz]
      · rfl
  | cons x l ih =>
    simp only [putG]
    split
    · rename_i h1
      split
      · rename_i hn
        subst hn
        rw [z0, Nat.add_zero]
        split
        · rename_i e
          have h0 : lookG (x :: l) b = 0 := by rw [lookG, if_neg (by omega), look_tail h (by omega)]
          rw [h0]; rfl
        · rfl
      · rw [lookG]
        show (if at_ = b then _ else _) = _
        split
        · rename_i e
          have h0 : lookG (x :: l) b = 0 := by rw [lookG, if_neg (by omega), look_tail h (by omega)]
          rw [h0, hz]
        · rfl
    · split
      · rename_i h1 h2
        rw [lookG, lookG, ih h.tail]
        by_cases hx : x.at_ = b
        · rw [if_pos hx, if_pos hx, if_neg (by omega)]
        · rw [if_neg hx, if_neg hx]
      · rename_i h1 h2
        have e : x.at_ = at_ := by omega
        have h3 := h.some_ x (by simp)
        rw [if_neg (satP_pos (.inl h3)), lookG, lookG]
        show (if at_ = b then _ else _) = _
        by_cases hb : at_ = b
        · rw [if_pos hb, if_pos hb, if_pos (by omega), satP_nat]
        · rw [if_neg hb, if_neg hb, if_neg (by omega)]
theorem putsG_right {l : List Bin} (h : RightG l) (m : List Bin) : RightG (putsG l m) := by
  induction m generalizing l with
  | nil => exact h
  | cons x m ih => exact ih (putG_right h)
theorem look_puts {l m : List Bin} (h : RightG l) (hm : RightG m) (b : Int) : lookG (putsG l m) b = capN (lookG l b + lookG m b) := by
  have hc : ∀ {l : List Bin}, RightG l → capN (lookG l b) = lookG l b := fun {l} hl => by
    by_cases h0 : lookG l b = 0
    · rw [h0]; rfl
    · obtain ⟨x, hx, rfl⟩ := look_pos h0
      rw [look_some hl hx, capN_u]
  induction m generalizing l with
  | nil => show lookG l b = _; rw [lookG, Nat.add_zero, hc h]
  | cons x m ih =>
    show lookG (putsG (putG x.at_ x.n l) m) b = _
    rw [ih (putG_right h) hm.tail, look_put h, lookG]
    by_cases hx : x.at_ = b
    · rw [if_pos hx, if_pos hx, capN_add, look_tail hm (by omega), Nat.add_zero]
    · rw [if_neg hx, if_neg hx]
/-- a histogram of half as many buckets -/
def lowF (m : List Bin) (l : List Bin) : List Bin := l.foldl (fun m b => putG ((b.at_ + 1).tdiv 2) b.n m) m
theorem lowF_right {m : List Bin} (h : RightG m) (l : List Bin) : RightG (lowF m l) := by
  induction l generalizing m with
  | nil => exact h
  | cons x l ih => exact ih (putG_right h)
theorem half_iff {a b : Int} (h : 0 ≤ a) : (a + 1).tdiv 2 = b ↔ (a = 2 * b - 1 ∨ a = 2 * b) := by
  rw [Int.tdiv_eq_ediv_of_nonneg (by omega)]; omega
theorem look_low {m l : List Bin} (hm : RightG m) (hl : RightG l) (h0 : ∀ x ∈ l, 0 ≤ x.at_) (b : Int) : lookG (lowF m l) b = capN (lookG m b + (lookG l (2 * b - 1) + lookG l (2 * b))) := by
  have hc : ∀ {l : List Bin}, RightG l → capN (lookG l b) = lookG l b := fun {l} hl => by
    by_cases h0 : lookG l b = 0
    · rw [h0]; rfl
    · obtain ⟨x, hx, rfl⟩ := look_pos h0
      rw [look_some hl hx, capN_u]
  induction l generalizing m with
  | nil => show lookG m b = _; rw [lookG, lookG, Nat.add_zero, hc hm]
  | cons x l ih =>
    show lookG (lowF (putG ((x.at_ + 1).tdiv 2) x.n m) l) b = _
    rw [ih (putG_right hm) hl.tail (fun y hy => h0 y (by simp [hy])), look_put hm, lookG, lookG]
    have hx := half_iff (b := b) (h0 x (by simp))
    by_cases hb : (x.at_ + 1).tdiv 2 = b
    · rw [if_pos hb, capN_add]
      rcases hx.1 hb with e | e
      · rw [if_pos e, if_neg (by omega), look_tail hl (by omega)]; congr 1; omega
      · rw [if_neg (by omega), if_pos e, look_tail hl (b := 2 * b) (by omega)]; congr 1; omega
    · rw [if_neg hb, if_neg (fun e => hb (hx.2 (.inl e))), if_neg (fun e => hb (hx.2 (.inr e)))]
/-! ### buckets -/
/-- a value's bucket -/
def bkt (f : Nat) (v : UInt64) : Int := if v = 0 then 0 else 1 + Nat.log2 v.toNat * 2 ^ f + (v.toNat * 2 ^ f / 2 ^ Nat.log2 v.toNat - 2 ^ f : Nat)
structure IsHist (f : Nat) (S : List Itm) (l : List Bin) : Prop where
  right : RightG l
  pos : ∀ x ∈ l, 0 ≤ x.at_
  sum : ∀ b, lookG l b = capN (cnt (fun i => decide (bkt f i.h = b)) S)
theorem IsHist.uniq {f : Nat} {S T : List Itm} {l m : List Bin} (h : IsHist f S l) (k : IsHist f T m) (hST : S.Perm T) : l = m :=
  h.right.ext k.right fun b => by rw [h.sum, k.sum, cnt_perm _ hST]
theorem IsHist.new (f : Nat) : IsHist f [] [] := ⟨⟨by simp, by simp⟩, by simp, fun b => rfl⟩
theorem bkt_pos (f : Nat) (v : UInt64) : 0 ≤ bkt f v := by
  unfold bkt
  split
  · omega
  · have : (0 : Int) ≤ (Nat.log2 v.toNat : Int) * 2 ^ f := by
      have : ((Nat.log2 v.toNat : Int)) * 2 ^ f = ((Nat.log2 v.toNat * 2 ^ f : Nat) : Int) := by push_cast; rfl
      omega
    omega
theorem IsHist.add {f : Nat} {S : List Itm} {l : List Bin} (h : IsHist f S l) (i : Itm) : IsHist f (S ++ [i]) (putG (bkt f i.h) i.n l) := by
  refine ⟨putG_right h.right, fun x hx => ?_, fun b => ?_⟩
  · rcases putG_mem hx with e | e
    · rw [e]; exact bkt_pos _ _
    · exact h.pos x e
  · rw [look_put h.right, cnt_append, cnt_one, h.sum]
    by_cases hb : bkt f i.h = b
    · rw [if_pos hb, if_pos (by simpa using hb), capN_add]
    · rw [if_neg hb, if_neg (by simpa using hb), Nat.add_zero]
theorem putsG_pos {l m : List Bin} (h : ∀ x ∈ l, 0 ≤ x.at_) (k : ∀ x ∈ m, 0 ≤ x.at_) : ∀ x ∈ putsG l m, 0 ≤ x.at_ := by
  induction m generalizing l with
  | nil => exact h
  | cons y m ih =>
    refine ih (fun x hx => ?_) fun x hx => k x (by simp [hx])
    rcases putG_mem hx with e | e
    · rw [e]; exact k y (by simp)
    · exact h x e
theorem IsHist.merge {f : Nat} {S T : List Itm} {l m : List Bin} (h : IsHist f S l) (k : IsHist f T m) : IsHist f (S ++ T) (putsG l m) :=
  ⟨putsG_right h.right m, putsG_pos h.pos k.pos, fun b => by rw [look_puts h.right k.right, h.sum, k.sum, capN_add2, cnt_append]⟩
theorem bkt_low (f : Nat) (v : UInt64) : bkt f v = (bkt (f + 1) v + 1).tdiv 2 := by
  rw [Int.tdiv_eq_ediv_of_nonneg (by have := bkt_pos (f + 1) v; omega)]
  unfold bkt
  split
  · rfl
  · rename_i h
    have hv := nat_pos h
    generalize v.toNat = n at hv
    have h1 : 2 ^ n.log2 ≤ n := Nat.log2_self_le hv
    have hp : 0 < 2 ^ n.log2 := Nat.two_pow_pos _
    have e1 : n * 2 ^ f / 2 ^ n.log2 = n * 2 ^ (f + 1) / 2 ^ n.log2 / 2 := by
      rw [Nat.div_div_eq_div_mul, Nat.mul_comm (2 ^ n.log2) 2, ← Nat.div_div_eq_div_mul, Nat.pow_succ, ← Nat.mul_assoc, Nat.mul_div_cancel _ (by omega)]
    have e2 : 2 ^ f ≤ n * 2 ^ f / 2 ^ n.log2 := by
      rw [Nat.le_div_iff_mul_le hp, Nat.mul_comm]
      exact Nat.mul_le_mul_right _ h1
    have e3 : (2 : Nat) ^ (f + 1) = 2 * 2 ^ f := by rw [Nat.pow_succ]; omega
    generalize n * 2 ^ (f + 1) / 2 ^ n.log2 = q at e1
    rw [e1] at e2 ⊢
    have e4 : ((n.log2 : Int)) * 2 ^ (f + 1) = 2 * ((n.log2 : Int) * 2 ^ f) := by rw [Int.pow_succ]; generalize (2 : Int) ^ f = z; rw [← Int.mul_assoc]; omega
    rw [e4, e3]
    generalize (n.log2 : Int) * 2 ^ f = z
    generalize 2 ^ f = y at e2 ⊢
    omega
theorem IsHist.low {f : Nat} {S : List Itm} {l : List Bin} (h : IsHist (f + 1) S l) : IsHist f S (lowF [] l) := by
  have h0 : RightG [] := ⟨by simp, by simp⟩
  refine ⟨lowF_right h0 l, ?_, fun b => ?_⟩
  · have key : ∀ (l m : List Bin), (∀ x ∈ l, 0 ≤ x.at_) → (∀ x ∈ m, 0 ≤ x.at_) → ∀ x ∈ lowF m l, 0 ≤ x.at_ := by
      intro l
      induction l with
      | nil => intro m _ hm; exact hm
      | cons y l ih =>
        intro m hl hm
        refine ih _ (fun x hx => hl x (by simp [hx])) fun x hx => ?_
        rcases putG_mem hx with e | e
        · rw [e, Int.tdiv_eq_ediv_of_nonneg (by have := hl y (by simp); omega)]
          have := hl y (by simp); omega
        · exact hm x e
    exact key l [] h.pos (by simp)
  · rw [look_low h0 h.right h.pos, lookG, Nat.zero_add, h.sum, h.sum, capN_add2]
    congr 1
    symm
    refine cnt_or (fun i => ?_) (fun i => ?_) S
    · rw [Bool.eq_iff_iff, Bool.or_eq_true]
      simp only [decide_eq_true_eq]
      rw [bkt_low]
      exact half_iff (bkt_pos _ _)
    · simp only [decide_eq_true_eq]; omega
end Go.Proofs.YtikjigkkhdkibaaGreatDoor.W

/- What the sketch of some items is, at a level; what is added, merged, lowered. Plain; of no program. -/
namespace Go.Proofs.YtikjigkkhdkibaaGreatDoor.W
def skE (l : List UInt64) : Sk := ⟨1, 0, l, 0, [], 0, 0, [], 0, []⟩
def skR (b : Nat) (r : List UInt8) : Sk := ⟨1, 8 - b, [], b, r, 0, 0, [], 0, []⟩
def skC (L : Nat) (cols : Nat) (l : List UInt64) : Sk := ⟨2, L, [], 0, [], 2, cols, l, 0, []⟩
def skG (L f : Nat) (l : List Bin) : Sk := ⟨3, L, [], 0, [], 0, 0, [], f, l⟩
def newS (k : Int) : Sk := if k = 1 then skE [] else if k = 2 then skC 0 32 (List.replicate 64 0) else skG 0 3 []
def lowS (x : Sk) : Sk := if x.kind = 1 then (if x.level = 0 then skR 7 (ofR 7 x.e) else skR (x.bits.toNat - 1) (lowR x.regs)) else if x.kind = 2 then skC (x.level.toNat + 1) (x.cols.toNat / 2) (lowC 2 x.cols.toNat x.c) else skG (x.level.toNat + 1) (x.fine.toNat - 1) (lowF [] x.g)
def toS : Nat → Sk → Sk
  | 0, x => x
  | n + 1, x => toS n (lowS x)
def addS (x : Sk) (i : Itm) : Sk := if x.kind = 1 then (if x.level = 0 then (if (insU i.h x.e).length ≤ 64 then skE (insU i.h x.e) else skR 7 (addR 7 (ofR 7 x.e) i.h)) else skR x.bits.toNat (addR x.bits.toNat x.regs i.h))
  else if x.kind = 2 then skC x.level.toNat x.cols.toNat (addsC 2 x.cols.toNat i.h i.n x.c) else skG x.level.toNat x.fine.toNat (putG (bkt x.fine.toNat i.h) i.n x.g)
/-- two of a kind and a level, merged -/
def mrg1 (x y : Sk) : Sk := if x.kind = 1 then (if x.level = 0 then (if (ofE x.e y.e).length ≤ 64 then skE (ofE x.e y.e) else skR 7 (mergeR (ofR 7 x.e) (ofR 7 y.e))) else skR x.bits.toNat (mergeR x.regs y.regs))
  else if x.kind = 2 then skC x.level.toNat x.cols.toNat (mergeC x.c y.c) else skG x.level.toNat x.fine.toNat (putsG x.g y.g)
def mrgS (x y : Sk) : Sk := mrg1 (toS (y.level - x.level).toNat x) (toS (x.level - y.level).toNat y)
/-- the numbers, rising -/
def setE (S : List Itm) : List UInt64 := ofE [] (S.map (·.h))
def IsOf (k : Int) (L : Nat) (S : List Itm) (x : Sk) : Prop :=
  (k = 1 ∧ L ≤ 4 ∧ ((L = 0 ∧ (setE S).length ≤ 64 ∧ x = skE (setE S)) ∨ ∃ r M, x = skR (8 - M) r ∧ IsRegs (8 - M) (S.map (·.h)) r ∧ 1 ≤ M ∧ M ≤ 4 ∧ ((M = L ∧ 1 ≤ L) ∨ (L = 0 ∧ M = 1 ∧ 64 < (setE S).length)))) ∨
  (k = 2 ∧ L ≤ 3 ∧ ∃ c, x = skC L (32 / 2 ^ L) c ∧ IsCells 2 (32 / 2 ^ L) S c) ∨
  (k = 3 ∧ L ≤ 3 ∧ ∃ g, x = skG L (3 - L) g ∧ IsHist (3 - L) S g)
theorem lowS_E (l : List UInt64) : lowS (skE l) = skR 7 (ofR 7 l) := rfl
theorem lv_R {b : Nat} (r : List UInt8) (hb : b < 8) : ¬ (skR b r).level = 0 := by show ¬ (8 : Int) - (b : Nat) = 0; omega
theorem lowS_R {b : Nat} (r : List UInt8) (hb : b < 8) : lowS (skR b r) = skR (b - 1) (lowR r) := by
  rw [lowS, if_pos (show (skR b r).kind = 1 from rfl), if_neg (lv_R r hb)]; rfl
theorem lowS_C (L c : Nat) (l : List UInt64) : lowS (skC L c l) = skC (L + 1) (c / 2) (lowC 2 c l) := rfl
theorem lowS_G (L f : Nat) (l : List Bin) : lowS (skG L f l) = skG (L + 1) (f - 1) (lowF [] l) := rfl
theorem addS_E (l : List UInt64) (i : Itm) : addS (skE l) i = if (insU i.h l).length ≤ 64 then skE (insU i.h l) else skR 7 (addR 7 (ofR 7 l) i.h) := rfl
theorem addS_R {b : Nat} (r : List UInt8) (i : Itm) (hb : b < 8) : addS (skR b r) i = skR b (addR b r i.h) := by
  rw [addS, if_pos (show (skR b r).kind = 1 from rfl), if_neg (lv_R r hb)]; rfl
theorem addS_C (L c : Nat) (l : List UInt64) (i : Itm) : addS (skC L c l) i = skC L c (addsC 2 c i.h i.n l) := rfl
theorem addS_G (L f : Nat) (l : List Bin) (i : Itm) : addS (skG L f l) i = skG L f (putG (bkt f i.h) i.n l) := rfl
theorem mrg_E (l m : List UInt64) : mrg1 (skE l) (skE m) = if (ofE l m).length ≤ 64 then skE (ofE l m) else skR 7 (mergeR (ofR 7 l) (ofR 7 m)) := rfl
theorem mrg_R {b : Nat} (r s : List UInt8) (c : Nat) (hb : b < 8) : mrg1 (skR b r) (skR c s) = skR b (mergeR r s) := by
  rw [mrg1, if_pos (show (skR b r).kind = 1 from rfl), if_neg (lv_R r hb)]; rfl
theorem mrg_C (L c L' c' : Nat) (l m : List UInt64) : mrg1 (skC L c l) (skC L' c' m) = skC L c (mergeC l m) := rfl
theorem mrg_G (L f L' f' : Nat) (l m : List Bin) : mrg1 (skG L f l) (skG L' f' m) = skG L f (putsG l m) := rfl
theorem mem_setE {S : List Itm} {n : UInt64} : n ∈ setE S ↔ n ∈ S.map (·.h) := by rw [setE, mem_ofE]; simp
theorem rises_setE (S : List Itm) : risesU (setE S) = true := risesU_ofE rfl
theorem setE_ext {S T : List Itm} (h : ∀ n, n ∈ S.map (·.h) ↔ n ∈ T.map (·.h)) : setE S = setE T := rises_ext (rises_setE S) (rises_setE T) fun n => by rw [mem_setE, mem_setE, h]
theorem perm_h {S T : List Itm} (h : S.Perm T) (n : UInt64) : n ∈ S.map (·.h) ↔ n ∈ T.map (·.h) := (h.map _).mem_iff
/-- the sketch of some items is one -/
theorem IsOf.uniq {k : Int} {L : Nat} {S T : List Itm} {x y : Sk} (h : IsOf k L S x) (g : IsOf k L T y) (hST : S.Perm T) : x = y := by
  have hm := perm_h hST
  have he := setE_ext hm
  rcases h with ⟨rfl, hL, h⟩ | ⟨rfl, hL, c, rfl, h⟩ | ⟨rfl, hL, c, rfl, h⟩
  · rcases g with ⟨_, _, g⟩ | ⟨h1, _⟩ | ⟨h1, _⟩
    · rcases h with ⟨h1, h2, rfl⟩ | ⟨r, M, rfl, h2, h3, h4, h5⟩
      · rcases g with ⟨g1, g2, rfl⟩ | ⟨r', M', rfl, g2, g3, g4, g5⟩
        · rw [he]
        · rw [he] at h2; omega
      · rcases g with ⟨g1, g2, rfl⟩ | ⟨r', M', rfl, g2, g3, g4, g5⟩
        · rw [← he] at g2; omega
        · obtain rfl : M = M' := by omega
          rw [h2.uniq g2 hm]
    · omega
    · omega
  · rcases g with ⟨h1, _⟩ | ⟨_, _, d, rfl, g⟩ | ⟨h1, _⟩
    · omega
    · rw [h.uniq g hST]
    · omega
  · rcases g with ⟨h1, _⟩ | ⟨h1, _⟩ | ⟨_, _, d, rfl, g⟩
    · omega
    · omega
    · rw [h.uniq g hST]
theorem IsOf.new {k : Int} (hk : k = 1 ∨ k = 2 ∨ k = 3) : IsOf k 0 [] (newS k) := by
  rcases hk with rfl | rfl | rfl
  · exact .inl ⟨rfl, by omega, .inl ⟨rfl, by decide, rfl⟩⟩
  · exact .inr (.inl ⟨rfl, by omega, _, rfl, IsCells.new 2 32⟩)
  · exact .inr (.inr ⟨rfl, by omega, [], rfl, IsHist.new 3⟩)
theorem regs_small {b : Nat} {S : List UInt64} {r : List UInt8} (hb : b ≤ 64) (h : IsRegs b S r) (p : Nat) (u : UInt8) (hu : r[p]? = some u) : u.toNat ≤ 200 := by
  rcases (h.sup p u hu).2 with h0 | ⟨n, _, _, hv⟩
  · omega
  · have := rankR_le n hb; omega
theorem IsRegs.same {b : Nat} {S T : List UInt64} {r : List UInt8} (h : IsRegs b S r) (hST : ∀ n, n ∈ S ↔ n ∈ T) : IsRegs b T r :=
  ⟨h.len, fun p u hu => ⟨fun n hn => (h.sup p u hu).1 n ((hST n).2 hn), (h.sup p u hu).2.imp id fun ⟨n, hn, hp⟩ => ⟨n, (hST n).1 hn, hp⟩⟩⟩
theorem regs_set (S : List Itm) : IsRegs 7 (S.map (·.h)) (ofR 7 (setE S)) := (IsRegs.of (by omega) (setE S)).same fun _ => mem_setE
/-- lowered by a level -/
theorem IsOf.low {k : Int} {L : Nat} {S : List Itm} {x : Sk} (h : IsOf k L S x) {n : Nat} (hx : x.level = n) (hn : n + 1 ≤ (if k = 1 then 4 else 3)) : IsOf k (n + 1) S (lowS x) := by
  rcases h with ⟨rfl, hL, h⟩ | ⟨rfl, hL, c, rfl, h⟩ | ⟨rfl, hL, c, rfl, h⟩
  · rw [if_pos rfl] at hn
    rcases h with ⟨h1, h2, rfl⟩ | ⟨r, M, rfl, h2, h3, h4, h5⟩
    · obtain rfl : n = 0 := by have : (0 : Int) = n := hx; omega
      exact .inl ⟨rfl, by omega, .inr ⟨_, 1, rfl, regs_set S, by omega, by omega, .inl ⟨rfl, by omega⟩⟩⟩
    · have e : M = n := by have : (8 : Int) - (8 - M : Nat) = n := hx; omega
      subst e
      have hr := IsRegs.low (b := 8 - (M + 1)) (by omega) (show IsRegs (8 - (M + 1) + 1) (S.map (·.h)) r by rw [show 8 - (M + 1) + 1 = 8 - M by omega]; exact h2) (regs_small (b := 8 - M) (by omega) h2)
      refine .inl ⟨rfl, by omega, .inr ⟨lowR r, M + 1, ?_, hr, by omega, by omega, .inl ⟨rfl, by omega⟩⟩⟩
      rw [lowS_R _ (by omega), show 8 - M - 1 = 8 - (M + 1) by omega]
  · rw [if_neg (by omega)] at hn
    have e : L = n := by have : (L : Int) = n := hx; omega
    subst e
    have e2 : 32 / 2 ^ L = 2 * (32 / 2 ^ (L + 1)) := by
      have : L = 0 ∨ L = 1 ∨ L = 2 := by omega
      rcases this with rfl | rfl | rfl <;> rfl
    refine .inr (.inl ⟨rfl, by omega, lowC 2 (32 / 2 ^ L) c, ?_, h.low e2⟩)
    rw [lowS_C]
    congr 1
    omega
  · rw [if_neg (by omega)] at hn
    have e : L = n := by have : (L : Int) = n := hx; omega
    subst e
    refine .inr (.inr ⟨rfl, by omega, lowF [] c, ?_, ?_⟩)
    · rw [lowS_G]
      congr 1
    · refine IsHist.low ?_
      rw [show 3 - (L + 1) + 1 = 3 - L by omega]
      exact h
/-- its level -/
theorem IsOf.lev {k : Int} {L : Nat} {S : List Itm} {x : Sk} (h : IsOf k L S x) : ∃ n : Nat, x.level = n ∧ (n = L ∨ (k = 1 ∧ L = 0 ∧ n = 1)) ∧ x.kind = k ∧ n ≤ (if k = 1 then 4 else 3) ∧ (k = 1 ∨ k = 2 ∨ k = 3) ∧ IsOf k n S x := by
  have h0 := h
  rcases h with ⟨rfl, hL, h⟩ | ⟨rfl, hL, c, rfl, h⟩ | ⟨rfl, hL, c, rfl, h⟩
  · rcases h with ⟨rfl, h2, rfl⟩ | ⟨r, M, rfl, h2, h3, h4, h5⟩
    · exact ⟨0, rfl, .inl rfl, rfl, by simp, .inl rfl, h0⟩
    · refine ⟨M, ?_, ?_, rfl, by rw [if_pos rfl]; omega, .inl rfl, .inl ⟨rfl, h4, .inr ⟨r, M, rfl, h2, h3, h4, .inl ⟨rfl, h3⟩⟩⟩⟩
      · show (8 : Int) - (8 - M : Nat) = M; omega
      · omega
  · exact ⟨L, rfl, .inl rfl, rfl, by rw [if_neg (by omega)]; omega, .inr (.inl rfl), h0⟩
  · exact ⟨L, rfl, .inl rfl, rfl, by rw [if_neg (by omega)]; omega, .inr (.inr rfl), h0⟩
theorem IsOf.to {k : Int} {n : Nat} {S : List Itm} {x : Sk} (h : IsOf k n S x) (hx : x.level = n) (m : Nat) (hm : n + m ≤ (if k = 1 then 4 else 3)) : IsOf k (n + m) S (toS m x) ∧ (toS m x).level = (n + m : Nat) := by
  induction m generalizing n x with
  | zero => exact ⟨h, hx⟩
  | succ m ih =>
    have h1 := h.low hx (by omega)
    obtain ⟨n', e1, e2, _⟩ := h1.lev
    have e : n' = n + 1 := by omega
    subst e
    have h2 := ih h1 e1 (by omega)
    rw [show n + (m + 1) = n + 1 + m by omega]
    exact h2
/-- lowered to a level -/
theorem IsOf.toL {k : Int} {L : Nat} {S : List Itm} {x : Sk} (h : IsOf k L S x) (M : Nat) (hM : M ≤ (if k = 1 then 4 else 3)) : IsOf k (max L M) S (toS (M - x.level).toNat x) := by
  obtain ⟨n, hn, hL, _, hle, _, h1⟩ := h.lev
  rw [hn]
  by_cases h0 : M ≤ n
  · rw [show ((M : Int) - n).toNat = 0 by omega]
    show IsOf k _ S x
    rcases Nat.lt_or_ge L M with h2 | h2
    · rcases hL with rfl | ⟨hk, rfl, rfl⟩
      · omega
      · rw [show max 0 M = 1 by omega]; exact h1
    · rw [Nat.max_eq_left h2]; exact h
  · have h2 := (h1.to hn (M - n) (by omega)).1
    rw [show ((M : Int) - n).toNat = M - n by omega, show max L M = n + (M - n) by omega]
    exact h2
theorem setE_snoc (S : List Itm) (i : Itm) : setE (S ++ [i]) = insU i.h (setE S) := by simp [setE, ofE]
theorem IsOf.add {k : Int} {L : Nat} {S : List Itm} {x : Sk} (h : IsOf k L S x) (i : Itm) : IsOf k L (S ++ [i]) (addS x i) := by
  rcases h with ⟨rfl, hL, h⟩ | ⟨rfl, hL, c, rfl, h⟩ | ⟨rfl, hL, c, rfl, h⟩
  · rcases h with ⟨rfl, h2, rfl⟩ | ⟨r, M, rfl, h2, h3, h4, h5⟩
    · rw [addS_E, ← setE_snoc]
      split
      · rename_i h1
        exact .inl ⟨rfl, by omega, .inl ⟨rfl, h1, rfl⟩⟩
      · rename_i h1
        refine .inl ⟨rfl, by omega, .inr ⟨_, 1, rfl, ?_, by omega, by omega, .inr ⟨rfl, rfl, by omega⟩⟩⟩
        exact (regs_set S).add (by omega) fun n => by simp [eq_comm]
    · rw [addS_R _ _ (by omega)]
      refine .inl ⟨rfl, hL, .inr ⟨_, M, rfl, h2.add (by omega) fun n => by simp [eq_comm], h3, h4, h5.imp id fun h6 => ⟨h6.1, h6.2.1, ?_⟩⟩⟩
      -- the numbers are no fewer
      rw [setE_snoc]
      have hle : ∀ (n : UInt64) (l : List UInt64), l.length ≤ (insU n l).length := by
        intro n l
        induction l with
        | nil => simp [insU]
        | cons a l ih =>
          simp only [insU]
          split
          · simp
          · split
            · simpa using ih
            · simp
      have := hle i.h (setE S)
      omega
  · rw [addS_C]
    exact .inr (.inl ⟨rfl, hL, _, rfl, h.add i⟩)
  · rw [addS_G]
    exact .inr (.inr ⟨rfl, hL, _, rfl, h.add i⟩)
end Go.Proofs.YtikjigkkhdkibaaGreatDoor.W

/- Sketches of items: merged; they are right. Plain; of no program. -/
namespace Go.Proofs.YtikjigkkhdkibaaGreatDoor.W
theorem ofE_len (acc l : List UInt64) : acc.length ≤ (ofE acc l).length := by
  have hle : ∀ (n : UInt64) (l : List UInt64), l.length ≤ (insU n l).length := by
    intro n l
    induction l with
    | nil => simp [insU]
    | cons a l ih =>
      simp only [insU]
      split
      · simp
      · split
        · simpa using ih
        · simp
  induction l generalizing acc with
  | nil => exact Nat.le_refl _
  | cons a l ih => exact Nat.le_trans (hle a acc) (ih (insU a acc))
theorem setE_append (S T : List Itm) : setE (S ++ T) = ofE (setE S) (setE T) :=
  rises_ext (rises_setE _) (risesU_ofE (rises_setE S)) fun n => by rw [mem_setE, mem_ofE, mem_setE, mem_setE, List.map_append, List.mem_append]
theorem setE_comm (S T : List Itm) : setE (S ++ T) = setE (T ++ S) := setE_ext fun n => by simp only [List.map_append, List.mem_append]; exact Or.comm
theorem setE_le (S T : List Itm) : (setE S).length ≤ (setE (S ++ T)).length ∧ (setE T).length ≤ (setE (S ++ T)).length :=
  ⟨by rw [setE_append]; exact ofE_len _ _, by rw [setE_comm, setE_append]; exact ofE_len _ _⟩
/-- two at one level -/
theorem IsOf.mrg {k : Int} {n : Nat} {S T : List Itm} {x y : Sk} (h : IsOf k n S x) (g : IsOf k n T y) (hx : x.level = n) (hy : y.level = n) : IsOf k n (S ++ T) (mrg1 x y) := by
  rcases h with ⟨rfl, hL, h⟩ | ⟨rfl, hL, c, rfl, h⟩ | ⟨rfl, hL, c, rfl, h⟩
  · rcases g with ⟨_, _, g⟩ | ⟨h1, _⟩ | ⟨h1, _⟩
    · rcases h with ⟨h1, h2, rfl⟩ | ⟨r, M, rfl, h2, h3, h4, h5⟩
      · subst h1
        rcases g with ⟨g1, g2, rfl⟩ | ⟨r', M', rfl, g2, g3, g4, g5⟩
        · rw [mrg_E, ← setE_append]
          split
          · rename_i h6; exact .inl ⟨rfl, hL, .inl ⟨rfl, h6, rfl⟩⟩
          · rename_i h6
            refine .inl ⟨rfl, hL, .inr ⟨_, 1, rfl, ?_, by omega, by omega, .inr ⟨rfl, rfl, by omega⟩⟩⟩
            rw [List.map_append]
            exact (regs_set S).merge (regs_set T)
        · have : (8 : Int) - (8 - M' : Nat) = (0 : Nat) := hy
          omega
      · have e1 : (8 : Int) - (8 - M : Nat) = n := hx
        rcases g with ⟨g1, g2, rfl⟩ | ⟨r', M', rfl, g2, g3, g4, g5⟩
        · have : (0 : Int) = n := hy
          omega
        · have e2 : (8 : Int) - (8 - M' : Nat) = n := hy
          obtain rfl : M = M' := by omega
          rw [mrg_R _ _ _ (by omega)]
          refine .inl ⟨rfl, hL, .inr ⟨_, M, rfl, ?_, h3, h4, .inl ⟨by omega, by omega⟩⟩⟩
          rw [List.map_append]
          exact h2.merge g2
    · omega
    · omega
  · rcases g with ⟨h1, _⟩ | ⟨_, _, d, rfl, g⟩ | ⟨h1, _⟩
    · omega
    · rw [mrg_C]; exact .inr (.inl ⟨rfl, hL, _, rfl, h.merge g⟩)
    · omega
  · rcases g with ⟨h1, _⟩ | ⟨h1, _⟩ | ⟨_, _, d, rfl, g⟩
    · omega
    · omega
    · rw [mrg_G]; exact .inr (.inr ⟨rfl, hL, _, rfl, h.merge g⟩)
/-- at a level lower than it is -/
theorem IsOf.back {k : Int} {S T : List Itm} {x : Sk} (h : IsOf k 1 (S ++ T) x) (hk : k = 1) (hL : 64 < (setE S).length ∨ 64 < (setE T).length) : IsOf k 0 (S ++ T) x := by
  have h1 := setE_le S T
  subst hk
  rcases h with ⟨_, _, h⟩ | ⟨h1, _⟩ | ⟨h1, _⟩
  · rcases h with ⟨h2, _⟩ | ⟨r, M, rfl, h2, h3, h4, h5⟩
    · omega
    · exact .inl ⟨rfl, by omega, .inr ⟨r, M, rfl, h2, h3, h4, .inr ⟨rfl, by omega, by omega⟩⟩⟩
  · omega
  · omega
theorem IsOf.big {S : List Itm} {x : Sk} (h : IsOf 1 0 S x) (hx : x.level = (1 : Nat)) : 64 < (setE S).length := by
  rcases h with ⟨_, _, h⟩ | ⟨h1, _⟩ | ⟨h1, _⟩
  · rcases h with ⟨_, _, rfl⟩ | ⟨r, M, rfl, h2, h3, h4, h5⟩
    · have : (0 : Int) = (1 : Nat) := hx
      omega
    · omega
  · omega
  · omega
theorem IsOf.merge {k : Int} {L M : Nat} {S T : List Itm} {x y : Sk} (h : IsOf k L S x) (g : IsOf k M T y) : IsOf k (max L M) (S ++ T) (mrgS x y) := by
  obtain ⟨n, hn, hnL, _, hle, hk, h1⟩ := h.lev
  obtain ⟨m, hm, hmM, _, hle', _, g1⟩ := g.lev
  unfold mrgS
  rw [hn, hm]
  have key : ∀ a b : Nat, a ≤ (if k = 1 then 4 else 3) → b ≤ (if k = 1 then 4 else 3) → a + ((b : Int) - a).toNat = max a b := fun a b _ _ => by omega
  have h2 := h1.to hn ((m : Int) - n).toNat (by have := key n m hle hle'; omega)
  have g2 := g1.to hm ((n : Int) - m).toNat (by have := key m n hle' hle; omega)
  rw [key n m hle hle'] at h2
  rw [key m n hle' hle, Nat.max_comm] at g2
  have h3 := h2.1.mrg g2.1 h2.2 g2.2
  rcases hnL with rfl | ⟨e1, rfl, rfl⟩
  · rcases hmM with rfl | ⟨e2, rfl, rfl⟩
    · exact h3
    · rcases Nat.eq_zero_or_pos n with h0 | h0
      · subst h0
        subst e2
        exact IsOf.back h3 rfl (.inr (g.big hm))
      · rw [show max n 0 = max n 1 by omega]; exact h3
  · rcases hmM with rfl | ⟨e2, rfl, rfl⟩
    · rcases Nat.eq_zero_or_pos m with h0 | h0
      · subst h0
        subst e1
        exact IsOf.back h3 rfl (.inl (h.big hn))
      · rw [show max 0 m = max 1 m by omega]; exact h3
    · subst e1
      exact IsOf.back h3 rfl (.inl (h.big hn))
/-! ### they are right -/
theorem rankR_small {b : Nat} (n : UInt64) (hb : b ≤ 64) : rankR b n ≤ 65 - b := by
  unfold rankR
  split
  · omega
  · rename_i h
    have h1 : 2 ^ b ≤ restR b n := by
      rw [rest_eq n hb] at h ⊢
      rcases Nat.eq_zero_or_pos (n.toNat % 2 ^ (64 - b)) with h2 | h2
      · rw [h2, Nat.zero_mul] at h; exact absurd rfl h
      · exact Nat.le_mul_of_pos_left _ h2
    have h2 : b ≤ Nat.log2 (restR b n) := (Nat.le_log2 h).2 h1
    omega
theorem IsRegs.right {b : Nat} {S : List UInt64} {r : List UInt8} (h : IsRegs b S r) (hb : 3 ≤ b ∧ b ≤ 8) : hllRight b r = true := by
  unfold hllRight
  rw [Bool.and_eq_true]
  refine ⟨decide_eq_true ⟨by omega, by omega, ?_⟩, List.all_eq_true.2 fun u hu => decide_eq_true ?_⟩
  · rw [h.len, Int.toNat_natCast]; norm_cast
  · obtain ⟨p, hp⟩ := List.getElem?_of_mem hu
    rcases (h.sup p u hp).2 with h0 | ⟨n, _, _, hv⟩
    · omega
    · have := rankR_small (b := b) n (by omega); omega
theorem IsCells.right {L : Nat} {S : List Itm} {l : List UInt64} (h : IsCells 2 (32 / 2 ^ L) S l) (hL : L ≤ 3) : cmsRight 2 ((32 / 2 ^ L : Nat) : Int) l = true := by
  have h1 := h.len
  have : L = 0 ∨ L = 1 ∨ L = 2 ∨ L = 3 := by omega
  rcases this with rfl | rfl | rfl | rfl <;> (unfold cmsRight isSize; simp at h1 ⊢; omega)
theorem log2_lt (v : UInt64) : Nat.log2 v.toNat ≤ 63 := by
  by_cases h : v.toNat = 0
  · rw [h]; decide
  · have := (Nat.log2_lt (k := 64) h).2 v.toNat_lt
    omega
/-- the leading digits -/
def topG (f v : Nat) : Nat := v * 2 ^ f / 2 ^ Nat.log2 v
theorem topG_range {f v : Nat} (hv : v ≠ 0) : 2 ^ f ≤ topG f v ∧ topG f v < 2 * 2 ^ f := by
  have h1 := Nat.log2_self_le hv
  have h2 : v < 2 ^ (Nat.log2 v + 1) := Nat.lt_log2_self
  have hp : 0 < 2 ^ Nat.log2 v := Nat.two_pow_pos _
  unfold topG
  refine ⟨?_, ?_⟩
  · rw [Nat.le_div_iff_mul_le hp, Nat.mul_comm]; exact Nat.mul_le_mul_right _ h1
  · rw [Nat.div_lt_iff_lt_mul hp]
    rw [Nat.pow_succ] at h2
    have h3 := Nat.mul_lt_mul_of_pos_right h2 (Nat.two_pow_pos f)
    have e : 2 * 2 ^ f * 2 ^ v.log2 = 2 ^ v.log2 * 2 * 2 ^ f := by rw [Nat.mul_assoc, Nat.mul_comm (2 ^ f), ← Nat.mul_assoc, Nat.mul_comm 2]
    omega
theorem shift_top {f : Nat} (hf : f ≤ 3) (v : UInt64) (hv : v.toNat ≠ 0) : shiftI (v.toNat : Int) ((f : Int) - Nat.log2 v.toNat) = topG f v.toNat := by
  have hl := log2_lt v
  have hlt := v.toNat_lt
  have ht := topG_range (f := f) hv
  unfold shiftI
  unfold topG at ht ⊢
  generalize v.toNat = n at *
  split
  · rename_i h
    have e1 : IntKind.i64.wrap (0 - ((f : Int) - n.log2)) = ((n.log2 - f : Nat) : Int) := by
      rw [show (0 : Int) - ((f : Int) - n.log2) = ((n.log2 - f : Nat) : Int) by omega]
      exact IntWalk.i64_in _ (by omega)
    rw [e1]
    unfold shrU
    rw [Int.toNat_natCast, show min (n.log2 - f) IntKind.u64.bits = n.log2 - f by simp [IntKind.bits]; omega]
    rw [Int.fdiv_eq_ediv_of_nonneg _ (Int.le_of_lt (Int.pow_pos (by omega)))]
    have e2 : n * 2 ^ f / 2 ^ n.log2 = n / 2 ^ (n.log2 - f) := by
      rw [show (2 : Nat) ^ n.log2 = 2 ^ (n.log2 - f) * 2 ^ f by rw [← Nat.pow_add]; congr 1; omega]
      exact Nat.mul_div_mul_right _ _ (Nat.two_pow_pos f)
    rw [e2]; norm_cast
  · rename_i h
    have e2 : n * 2 ^ f / 2 ^ n.log2 = n * 2 ^ (f - n.log2) := by
      rw [show (2 : Nat) ^ f = 2 ^ (f - n.log2) * 2 ^ n.log2 by rw [← Nat.pow_add]; congr 1; omega, ← Nat.mul_assoc]
      exact Nat.mul_div_cancel _ (Nat.two_pow_pos _)
    rw [e2] at ht ⊢
    unfold shlU
    rw [show ((f : Int) - n.log2).toNat = f - n.log2 by omega, show min (f - n.log2) IntKind.u64.bits = f - n.log2 by simp [IntKind.bits]; omega]
    have e3 : (n : Int) * 2 ^ (f - n.log2) = ((n * 2 ^ (f - n.log2) : Nat) : Int) := by push_cast; rfl
    rw [e3, wrapU]
    have h8 : 2 ^ f ≤ 2 ^ 3 := Nat.pow_le_pow_right (by omega) hf
    omega
theorem and_small : ∀ f : Fin 4, ∀ q : Fin 16, andU (q.val : Int) ((2 ^ f.val : Nat) - 1 : Int) = ((q.val % 2 ^ f.val : Nat) : Int) := by decide +kernel
theorem pw_nat {f : Nat} (hf : f ≤ 3) : pw (f : Int) = ((2 ^ f : Nat) : Int) := by
  have : f = 0 ∨ f = 1 ∨ f = 2 ∨ f = 3 := by omega
  rcases this with rfl | rfl | rfl | rfl <;> rfl
theorem pow_f {f : Nat} (hf : f ≤ 3) : 1 ≤ 2 ^ f ∧ 2 ^ f ≤ 8 := by
  have : f = 0 ∨ f = 1 ∨ f = 2 ∨ f = 3 := by omega
  rcases this with rfl | rfl | rfl | rfl <;> decide
theorem bkt_top {f : Nat} {v : UInt64} (hv : v ≠ 0) : bkt f v = 1 + (Nat.log2 v.toNat : Int) * (2 ^ f : Nat) + (topG f v.toNat - 2 ^ f : Nat) := by
  unfold bkt topG
  rw [if_neg hv]; push_cast; rfl
/-- as the machine reckons it -/
theorem bucket_bkt {f : Nat} (hf : f ≤ 3) (v : UInt64) : bucket (f : Int) v.toNat = bkt f v := by
  by_cases h0 : v = 0
  · subst h0
    rw [bucket, if_pos (.inr rfl)]; rfl
  · have hv := nat_pos h0
    have hl := log2_lt v
    have hp := pow_f hf
    obtain ⟨t1, t2⟩ := topG_range (f := f) hv
    have hfi : isFine (f : Int) = true := decide_eq_true ⟨by omega, by omega⟩
    rw [bucket, if_neg (by rw [hfi]; rintro (h | h); cases h; omega), bkt_top h0]
    have e0 : lenI (v.toNat : Int) - 1 = Nat.log2 v.toNat := by
      unfold lenI
      rw [if_neg (by omega), Int.toNat_natCast]; omega
    have w : ∀ e : Int, -9223372036854775808 ≤ e ∧ e ≤ 9223372036854775807 → W64 e = e := fun e h => IntWalk.i64_in _ h
    rw [e0, w (Nat.log2 v.toNat : Int) (by omega), w ((f : Int) - (Nat.log2 v.toNat : Int)) (by omega), shift_top hf v hv, pw_nat hf]
    have e1 : WU (WU (1 * ((2 ^ f : Nat) : Int)) - 1) = ((2 ^ f : Nat) : Int) - 1 := by
      have wu : ∀ e : Int, 0 ≤ e ∧ e ≤ 18446744073709551615 → WU e = e := fun e h => by
        show IntKind.u64.wrap e = e
        rw [wrapU]; omega
      rw [wu (1 * ((2 ^ f : Nat) : Int)) (by omega), Int.one_mul, wu _ (by omega)]
    have e2 : andU (topG f v.toNat : Int) (((2 ^ f : Nat) : Int) - 1) = ((topG f v.toNat - 2 ^ f : Nat) : Int) := by
      have h1 := and_small ⟨f, by omega⟩ ⟨topG f v.toNat, by omega⟩
      rw [h1]
      congr 1
      rw [Nat.mod_eq_sub_mod t1, Nat.mod_eq_of_lt (by omega)]
    rw [e1, e2]
    generalize topG f v.toNat = q at *
    generalize 2 ^ f = p at *
    have hm : (0 : Int) ≤ (v.toNat.log2 : Int) * (p : Int) ∧ (v.toNat.log2 : Int) * (p : Int) ≤ 504 := by
      have h1 : v.toNat.log2 * p ≤ 63 * 8 := Nat.mul_le_mul hl hp.2
      have h2 : (v.toNat.log2 : Int) * (p : Int) = ((v.toNat.log2 * p : Nat) : Int) := by push_cast; rfl
      omega
    generalize (v.toNat.log2 : Int) * (p : Int) = z at *
    rw [w z (by omega), w (1 + z) (by omega), w ((q - p : Nat) : Int) (by omega), w _ (by omega)]
theorem bOk_small : ∀ f : Fin 4, ∀ v : Fin 8, v.val ≠ 0 → bOk (f.val : Int) (bucket (f.val : Int) (v.val : Int)) = true := by decide +kernel
theorem bOk_bkt {f : Nat} (hf : f ≤ 3) (v : UInt64) : bOk (f : Int) (bkt f v) = true := by
  by_cases h0 : v = 0
  · subst h0
    have : f = 0 ∨ f = 1 ∨ f = 2 ∨ f = 3 := by omega
    rcases this with rfl | rfl | rfl | rfl <;> decide +kernel
  · have hv := nat_pos h0
    by_cases hs : v.toNat < 8
    · have h1 := bOk_small ⟨f, by omega⟩ ⟨v.toNat, hs⟩ hv
      rw [← bucket_bkt hf]
      exact h1
    · have hl := log2_lt v
      have hl3 : 3 ≤ Nat.log2 v.toNat := (Nat.le_log2 hv).2 (by omega)
      have hp := pow_f hf
      obtain ⟨t1, t2⟩ := topG_range (f := f) hv
      rw [bkt_top h0]
      have hfi : isFine (f : Int) = true := decide_eq_true ⟨by omega, by omega⟩
      have w : ∀ e : Int, -9223372036854775808 ≤ e ∧ e ≤ 9223372036854775807 → W64 e = e := fun e h => IntWalk.i64_in _ h
      unfold bOk
      rw [hfi, pw_nat hf]
      generalize topG f v.toNat = q at *
      generalize 2 ^ f = p at *
      generalize v.toNat.log2 = L at *
      have h2 : (L : Int) * (p : Int) = ((L * p : Nat) : Int) := by push_cast; rfl
      have h1 : L * p ≤ 63 * p := Nat.mul_le_mul_right _ hl
      rw [h2]
      have e1 : W64 (1 + ((L * p : Nat) : Int) + ((q - p : Nat) : Int) - 1) = ((L * p + (q - p) : Nat) : Int) := by
        rw [w _ (by omega)]; push_cast; omega
      rw [e1, w (64 * (p : Int)) (by omega)]
      have e2 : ((L * p + (q - p) : Nat) : Int).fdiv (p : Int) = L := by
        rw [Int.fdiv_eq_ediv_of_nonneg _ (by omega)]
        have : (L * p + (q - p)) / p = L := by
          rw [Nat.mul_comm, Nat.mul_add_div (by omega), Nat.div_eq_of_lt (by omega)]; omega
        exact_mod_cast this
      rw [e2, w ((L : Int) - f) (by omega)]
      simp only [Bool.true_and, Bool.and_eq_true, Bool.or_eq_true, decide_eq_true_eq]
      exact ⟨⟨by omega, by omega⟩, .inl (.inr (by omega))⟩
theorem hOk_of {f : Int} {l : List Bin} (h : RightG l) (h1 : ∀ x ∈ l, bOk f x.at_ = true) {last : Int} (h2 : ∀ x ∈ l, last < x.at_) : hOk f last l = true := by
  induction l generalizing last with
  | nil => rfl
  | cons x l ih =>
    rw [hOk, h1 x (by simp), decide_eq_true (h.some_ x (by simp)), decide_eq_true (h2 x (by simp)), ih h.tail (fun y hy => h1 y (by simp [hy])) h.head]; rfl
theorem IsHist.right_ {f : Nat} {S : List Itm} {l : List Bin} (h : IsHist f S l) (hf : f ≤ 3) : histRight f l = true := by
  unfold histRight
  rw [show isFine (f : Int) = true from decide_eq_true ⟨by omega, by omega⟩, Bool.true_and]
  refine hOk_of h.right (fun x hx => ?_) fun x hx => by have := h.pos x hx; omega
  have h1 := look_some h.right hx
  have h2 := nat_pos (h.right.some_ x hx)
  rw [h.sum] at h1
  have h3 : cnt (fun i => decide (bkt f i.h = x.at_)) S ≠ 0 := fun e => by rw [e] at h1; exact h2 h1.symm
  have key : ∀ S : List Itm, cnt (fun i => decide (bkt f i.h = x.at_)) S ≠ 0 → ∃ i ∈ S, bkt f i.h = x.at_ := by
    intro S
    induction S with
    | nil => intro h; exact absurd rfl h
    | cons i S ih =>
      intro h
      by_cases he : bkt f i.h = x.at_
      · exact ⟨i, by simp, he⟩
      · have e : cnt (fun i => decide (bkt f i.h = x.at_)) (i :: S) = cnt (fun i => decide (bkt f i.h = x.at_)) S := by simp [cnt, he]
        rw [e] at h
        obtain ⟨j, hj, hje⟩ := ih h
        exact ⟨j, by simp [hj], hje⟩
  obtain ⟨i, _, hi⟩ := key S h3
  rw [← hi]
  exact bOk_bkt hf i.h
end Go.Proofs.YtikjigkkhdkibaaGreatDoor.W

/- Ranges over functions whose iterator is lent blocks. Over any program. -/
namespace Go.Proofs.YtikjigkkhdkibaaGreatDoor.W
open Go.RowKit
variable {P : Program} {nt : Nat} {ro : Option Nat} {env env' : Env} {ds : List Deferred} {lb lb' : LBs} {Φ Φ' : Facts} {ω : Amb} {A : Nat → Prop} {w : World} {E : Operand → Value}
theorem fixd_end {X : List (List SV)} {j : Nat} (h : j = (X.map dens).length) : some j = some (fixd X).length := by rw [h, fixd, List.length_map, List.length_map]
/-- one who yields, and was lent bs -/
def ambL (P : Program) (ω : Amb) (S : Option Nat → LBs → Facts → Prop) (w1 : World) (A : Nat → Prop) (Mu : Foot) (bs : LBs) : Amb :=
  { M := fun b => Mu.1 b ∨ MuOf (sem bs) b, w0 := w1, A := A, G := fun _ => True, Mu := Mu, N := fun b => A b ∨ (Mu.1 b ∨ MuOf (sem bs) b) ∨ w1.heap.size ≤ b, free := True, hfree := fun _ => ⟨fun _ => trivial, fun _ h => h⟩
    Z := fun s Mu W => ∃ lb Φ Muo, S s lb Φ ∧ Cov P lb Φ ω Mu Muo W
    stb := fun _ _ _ _ ⟨lb, Φ, Muo, h1, h2⟩ hk => ⟨lb, Φ, Muo, h1, h2.keep hk⟩
    mono := fun _ _ _ _ ⟨lb, Φ, Muo, h1, h2⟩ h3 h4 => ⟨lb, Φ, Muo, h1, h2.mono h3 h4⟩ }
/-- blocks of one's own are lent to the iterator, and do not come back -/
theorem SemC.rangeL {bs : LBs} {Q : QT} {gO : Operand} {ps : Array Tmp} {assign body : Code} {gf : FuncId} {caps : List SV} {Φ0 : Facts} {X : List PubI} {R : LBs → Facts → Prop} (j : Nat)
    (hns : noSeq bs = true) (hIt : It P gf bs caps Φ0 X R) (hg : evS env gO fun v => v.den = (SV.fn gf [] caps).den) (hfn : isFn P gf)
    (S : Nat → (LoopState → Option Code → Loop) → Option Nat → LBs → Facts → Prop) (Fin : Nat → (LoopState → Option Code → Loop) → Option Nat → Code → LBs → Facts → Prop) (hFin : ∀ D rc s c lb Φ, Fin D rc s c lb Φ → ∃ lb' Φ', Imp P lb Φ lb' Φ' ∧ S D rc s lb' Φ')
    (h0 : ∀ D rc, ∃ lb' Φ', Imp P (lb ++ [(D, .obj (.deferred (some []))), (D + 1, .obj (.loop (rc .ready none)))]) Φ (lb' ++ bs) Φ' ∧ S D rc (some 0) lb' Φ' ∧ ∀ F ∈ Φ0, F ∈ Φ')
    (hround : ∀ D rc n lb Φ (I : PubI) (y : I.β), S D rc (some n) lb Φ → X[n]? = some I → I.pr y → plainK lb ∧ nth lb j = some (D + 1, .obj (.loop (rc .ready none))) ∧
      paramsK nt ps.toList (I.enc y) env fun env => roundQ P nt (D + 1) j assign body env (Fin D rc) n (rc .ready none) (rc .busy none) (fun c => rc .done (some c)) lb (I.fs y ++ Φ))
    (hdone : ∀ D rc lb Φ, S D rc (some X.length) lb Φ → nth lb j = some (D + 1, .obj (.loop (rc .ready none))) ∧ ∀ o, setK lb j (D + 1, .obj o) fun lb => Q .normal env (markD D :: ds) lb Φ)
    (hstop : ∀ D rc lb Φ, S D rc none lb Φ → ∃ c, nth lb j = some (D + 1, .obj (.loop (rc .done (some c)))) ∧ ∀ o, setK lb j (D + 1, .obj o) fun lb => wpC P nt none c env (markD D :: ds) lb Φ Q) :
    SemC P nt none (.rangeFunc gO ps assign body) env ds lb Φ Q := by
  refine ⟨fun ω a w hra hr => wpIn_rangeFunc ?_⟩
  intro fn _
  obtain ⟨rc, hrc⟩ : ∃ rc : LoopState → Option Code → Loop, rc = fun st pe => { state := st, pending := pe, fn, tmps := a.tmps, params := ps, assign, body, defers := w.heap.size } := ⟨_, rfl⟩
  obtain ⟨D, hD⟩ : ∃ D, w.heap.size = D := ⟨_, rfl⟩
  obtain ⟨W1, hW1⟩ : ∃ W1, (w.alloc (.deferred (some []))).alloc (.loop (rc .ready none)) = W1 := ⟨_, rfl⟩
  have hsz : (w.alloc (.deferred (some []))).heap.size = D + 1 := by rw [World.size_alloc, hD]
  have hr1 : Rel P (lb ++ [(D, .obj (.deferred (some []))), (D + 1, .obj (.loop (rc .ready none)))]) Φ ω W1 := by
    have h1 := hr.alloc (o := .deferred (some [])) (b := .obj (.deferred (some []))) (fun _ _ _ h => by cases h) rfl rfl trivial
    have h2 := h1.alloc (o := .loop (rc .ready none)) (b := .obj (.loop (rc .ready none))) (fun _ _ _ h => by cases h) rfl rfl trivial
    rw [hsz, hD, hW1, List.append_assoc] at h2
    exact h2
  obtain ⟨lb1, Φ1, him, hS0, hΦ0⟩ := h0 D rc
  have hr2' := him _ _ hr1
  have hr2 : Rel P lb1 Φ1 ω W1 := by
    have h1 := Imp.take lb1.length _ _ hr2'
    rwa [List.take_left] at h1
  have hbs : ∀ (i : Nat) (p : Ent), (sem bs)[i]? = some p → (sem (lb1 ++ bs))[lb1.length + i]? = some p := fun i p hp => by
    rw [sem, List.map_append, List.getElem?_append_right (by simp)]
    simpa [sem] using hp
  have hlb : ∀ (i : Nat) (p : Ent), (sem lb1)[i]? = some p → (sem (lb1 ++ bs))[i]? = some p := fun i p hp => by
    rw [sem, List.map_append, List.getElem?_append_left (by simpa [sem] using (List.getElem?_eq_some_iff.1 hp).1)]
    exact hp
  have hoff : ∀ b, Off (sem (lb1 ++ bs)) b → Off (sem lb1) b ∧ Off (sem bs) b := fun b h => ⟨fun i p hp => h i p (hlb i p hp), fun i p hp => h _ p (hbs i p hp)⟩
  have hoff' : ∀ b, Off (sem lb1) b → Off (sem bs) b → Off (sem (lb1 ++ bs)) b := fun b h k i p hp => by
    have hp' := hp
    rw [sem, List.map_append] at hp'
    by_cases hi : i < (List.map ent lb1).length
    · rw [List.getElem?_append_left hi] at hp'; exact h i p hp'
    · rw [List.getElem?_append_right (by omega)] at hp'; exact k _ p hp'
  have hoffM : ∀ b, MuOf (sem lb1) b → Off (sem bs) b := by
    rintro b ⟨i, p, hp, hr, rfl⟩ k q hq hrq e
    have h1 := hr2'.st.inj i (lb1.length + k) p q (hlb i p hp) (hbs k q hq) hr hrq e.symm
    have h2 := (List.getElem?_eq_some_iff.1 hp).1
    simp only [sem, List.length_map] at h2
    omega
  obtain ⟨v, hv, hgv⟩ := evS_ok hra.ev hg
  have hgv' : a.eval gO = .func (.func gf) #[] (dens caps).toArray := by rw [hv, hgv]; simp [SV.den, dens]
  -- the blocks that there are
  have hcov : Cov P lb1 Φ1 ω (fun b => MuOf (sem lb1) b ∨ ω.Mu.1 b, fun b => b < W1.heap.size ∧ Off (sem bs) b) ω.Mu W1 := by
    refine ⟨hr2, fun b hb => .inl hb, fun b hb => .inr hb, fun b hb => hb, fun b hb => .inr ⟨(hr2.mu b (.inr hb)).1, (hoff b (hr2'.mu b (.inr hb)).2).2⟩, fun b hb hm => .inr ⟨Nat.lt_of_lt_of_le hb hr2.st.size, ?_⟩, hr2'.hold.kp fun b hlt hb => ⟨⟨⟨(hoff b hb.1).1, hb.2⟩, .inr ⟨hlt, (hoff b hb.1).2⟩⟩, rfl⟩⟩
    intro i p hp hrp e
    rcases ((hr2'.st.own _ p (hbs i p hp)).2 hrp).1 with h1 | h1
    · exact hm (e ▸ h1)
    · omega
  obtain ⟨Mu, hMu⟩ : ∃ Mu : Foot, Mu = (fun b => MuOf (sem lb1) b ∨ ω.Mu.1 b, fun b => b < W1.heap.size ∧ Off (sem bs) b) := ⟨_, rfl⟩
  rw [← hMu] at hcov
  have hit : Rel P ((0, .seq (D + 1) X (some 0)) :: bs) Φ0 (ambL P ω (S D rc) W1 (ω.In (sem (lb1 ++ bs))) Mu bs) W1 := by
    have hat : ∀ (i : Nat) (p : Ent), (sem ((0, OB.seq (D + 1) X (some 0)) :: bs))[i]? = some p → p.real → ∃ k, i = k + 1 ∧ (sem bs)[k]? = some p := by
      intro i p hp hrp
      cases i with
      | zero => cases hp; exact hrp.elim
      | succ i => exact ⟨i, rfl, by simpa [sem] using hp⟩
    have hpure : ∀ (i : Nat) (p : Ent), (sem ((0, OB.seq (D + 1) X (some 0)) :: bs))[i]? = some p → p.pure := by
      intro i p hp
      cases i with
      | zero => cases hp; exact trivial
      | succ i => exact (hr2'.st.own _ p (hbs i p (by simpa [sem] using hp))).1
    refine ⟨⟨Kept.refl _ _, ?_, ?_⟩, ?_, ?_, ⟨fun b hb => .inl (.inl hb), fun b hb => .inl trivial⟩, ?_⟩
    · intro i k p q hp hq hrp hrq e
      obtain ⟨i, rfl, hp⟩ := hat i p hp hrp
      obtain ⟨k, rfl, hq⟩ := hat k q hq hrq
      have := hr2'.st.inj _ _ p q (hbs i p hp) (hbs k q hq) hrp hrq e
      omega
    · intro i p hp
      refine ⟨hpure i p hp, fun hrp => ?_⟩
      obtain ⟨i, rfl, hp⟩ := hat i p hp hrp
      exact ⟨.inl (.inr ⟨i, p, hp, hrp, rfl⟩), ((hr2'.st.own _ p (hbs i p hp)).2 hrp).2⟩
    · intro F hF
      refine F.stb _ _ _ _ ?_ (hr2'.hold F (hΦ0 F hF))
      intro b _ hb
      refine ⟨⟨?_, ?_, .inl hb⟩, rfl⟩
      · intro i p hp hrp
        obtain ⟨i, rfl, hp⟩ := hat i p hp hrp
        exact (hoff b hb.1).2 i p hp hrp
      · show ¬ Mu.1 b
        rw [hMu]
        rintro (⟨i, p, hp, hrp, e⟩ | hm)
        · exact (hoff b hb.1).1 i p hp hrp e
        · exact hb.2.1 hm
    · intro b hb
      rw [show (ambL P ω (S D rc) W1 (ω.In (sem (lb1 ++ bs))) Mu bs).Mu = Mu from rfl, hMu] at hb
      have hob : b < W1.heap.size ∧ Off (sem bs) b := by
        rcases hb with (hb | hb) | hb
        · refine ⟨?_, hoffM b hb⟩
          obtain ⟨i, p, hp, hrp, rfl⟩ := hb
          exact hr2.st.lt hp hrp
        · exact ⟨(hr2.mu b (.inl hb)).1, (hoff b (hr2'.mu b (.inl hb)).2).2⟩
        · exact hb
      refine ⟨hob.1, fun i p hp hrp => ?_⟩
      obtain ⟨i, rfl, hp⟩ := hat i p hp hrp
      exact hob.2 i p hp hrp
    · intro b lp xs s hi
      cases hi
      refine ⟨⟨lb1, Φ1, ω.Mu, hS0, hcov⟩, ?_⟩
      refine ⟨?_, .inr trivial⟩
      intro n Mu' W I y hx hy hz hh
      obtain ⟨lbn, Φn, Muo, hSn, hcn⟩ := hz
      obtain ⟨hpl, hj, hp⟩ := hround D rc n lbn Φn I y hSn hx hy
      have hN : ∀ b, (ω.In (sem (lb1 ++ bs)) b ∨ (Mu.1 b ∨ MuOf (sem bs) b) ∨ W1.heap.size ≤ b) → ω.A b ∨ ω.M b ∨ ω.w0.heap.size ≤ b := by
        rintro b (hb | (hb | hb) | hb)
        · exact hb.2.2
        · rw [hMu] at hb
          exact .inr (hb.elim (fun h => hr2.own_old h) (hr2.muM.1 b))
        · obtain ⟨i, p, hp, hrp, rfl⟩ := hb
          exact .inr ((hr2'.st.own _ p (hbs i p hp)).2 hrp).1
        · exact .inr (.inr (Nat.le_trans hr2.st.size hb))
      exact round_ok (hFin D rc) hrc hcn hpl hh hN hj (show RA nt env [] { tmps := a.tmps, defers := [] } from ⟨hra.size, hra.slot, rfl⟩) hp
  refine ⟨D + 1, [⟨.collected D, #[]⟩], W1, { target := .fn (.func gf) (dens caps).toArray, args := #[.func (.yield (D + 1)) #[] #[]] }, W1, gf, #[.func (.yield (D + 1)) #[] #[]] ++ (dens caps).toArray, W1, ?_, ?_, ?_, ?_, fun h => (by cases h), ?_⟩
  · have h1 := run_enterLoop_outer (P := P) (w := w) fn a.tmps ps assign body
    rw [hD] at h1
    rw [← hW1, hrc]
    simpa [FW, hD] using h1
  · simp only [resolve]
    simp only [hgv', Deferred.ofValue]
    simp [Act.eval]
  · intro f' _; trivial
  · have hfn' : ∀ args w, (callFunc gf args).run P w = .ok (.enter gf args) w := hfn
    simp [invoke, hfn']
  have hcall := hIt.h (D + 1) _ W1 hit
  have e0 : (dens (.yld (D + 1) :: caps)).toArray = #[.func (.yield (D + 1)) #[] #[]] ++ (dens caps).toArray := by simp [dens, SV.den]
  rw [e0] at hcall
  refine callsIn_FW (Calls.mono hcall ?_)
  rintro e W' ⟨v, s, Mu', lbi, Φi, rfl, hs, hri, _⟩
  obtain ⟨⟨lbn, Φn, Muo, hSn, hcn⟩, _⟩ := hri.amb 0 (D + 1) X s rfl
  have fin : ∀ (r : Loop) (pend : Option Code), nth lbn j = some (D + 1, .obj (.loop r)) → r.state ≠ .busy → r.pending = pend →
      ∃ W4 o, (Instr.endLoop (D + 1)).run P W' = .ok pend W4 ∧ Rel P (lbn.set j (D + 1, .obj o)) Φn (ω.mu Muo) W4 := by
    intro r pend hj hb hp
    have he := run_endLoop (P := P) (hcn.rel.objAt hj) hb
    rw [hp] at he
    exact ⟨_, _, he, hcn.rel.putAt _ hj⟩
  have hra2 : RA nt env (markD D :: ds) { a with defers := [⟨.collected D, #[]⟩] ++ a.defers } := ⟨hra.size, hra.slot, by rw [← hra.defs]; rfl⟩
  rcases hs with rfl | rfl
  · obtain ⟨c, hj, hq⟩ := hstop D rc lbn Φn hSn
    obtain ⟨W4, o, h1, h2⟩ := fin _ (some c) hj (by rw [hrc]; simp) (by rw [hrc])
    have h3 := hq o
    rw [setK_eq] at h3
    exact ⟨some c, W4, h1, wpC_ok (ω := ω.mu Muo) h3 hra2 h2⟩
  · obtain ⟨hj, hq⟩ := hdone D rc lbn Φn hSn
    obtain ⟨W4, o, h1, h2⟩ := fin _ none hj (by rw [hrc]; simp) (by rw [hrc])
    have h3 := hq o
    rw [setK_eq] at h3
    exact ⟨none, W4, h1, _, _, _, _, Muo, hra2, h2, h3⟩
theorem SemC.rangeP {σ : Type} {bs : LBs} {Q : QT} {gO : Operand} {ps : Array Tmp} {assign body : Code} {gf : FuncId} {caps : List SV} {Φ0 : Facts} {R : LBs → Facts → Prop} (B : σ → LBs) (F : σ → Facts) (inv : Nat → σ → Prop) (stop : Code → σ → Prop) (X : List PubI) (m : Nat)
    (hns : noSeq bs = true) (hIt : It P gf bs caps Φ0 X R) (x0 : σ) (h0 : inv 0 x0) (hm : ∀ x, (B x).length = m) (hi : ∀ D r, Imp P (lb ++ twoB D r) Φ ((B x0 ++ twoB D r) ++ bs) (F x0)) (hΦ : SubK Φ0 (F x0)) (hg : evS env gO fun v => v.den = (SV.fn gf [] caps).den)
    (hround : ∀ (D : Nat) (rc : LoopState → Option Code → Loop) n x (I : PubI) (y : I.β), inv n x → X[n]? = some I → I.pr y → Nx1 (appK (B x) (twoB D (rc .ready none)) fun lb => arrK ps fun ps => paramsK nt ps (I.enc y) env fun env => roundQ P nt (D + 1) (m + 1) assign body env (finS P D B F inv stop rc) n (rc .ready none) (rc .busy none) (fun c => rc .done (some c)) lb (I.fs y ++ F x)))
    (hdone : ∀ D x o, inv X.length x → Nx (appK (B x) [(D, .obj (.deferred (some []))), (D + 1, .obj o)] fun lb => Q .normal env (markD D :: ds) lb (F x)))
    (hstop : ∀ D c x o, stop c x → Nx2 (appK (B x) [(D, .obj (.deferred (some []))), (D + 1, .obj o)] fun lb => wpC P nt none c env (markD D :: ds) lb (F x) Q)) (hfn : isFn P gf := by exact fun _ _ => rfl) (hpl : ∀ D x r, plainK (B x ++ twoB D r) := by first | exact fun _ _ _ => trivial | exact fun _ _ _ => fixd_plain _) :
    SemC P nt none (.rangeFunc gO ps assign body) env ds lb Φ Q := by
  refine SemC.rangeL (X := X) (m + 1) hns hIt hg hfn (fun D rc s lb Φ => match s with
    | some n => ∃ x, lb = B x ++ twoB D (rc .ready none) ∧ Φ = F x ∧ inv n x
    | none => ∃ x c, lb = B x ++ twoB D (rc .done (some c)) ∧ Φ = F x ∧ stop c x) (fun D rc => finS P D B F inv stop rc) ?_ ?_ ?_ ?_ ?_
  · intro D rc s c lb Φ h
    cases s with
    | some n => obtain ⟨y, h1, h2⟩ := h; exact ⟨_, _, h2, y, rfl, rfl, h1⟩
    | none => obtain ⟨y, h1, h2⟩ := h; exact ⟨_, _, h2, y, c, rfl, rfl, h1⟩
  · exact fun D rc => ⟨_, _, hi D _, ⟨x0, rfl, rfl, h0⟩, hΦ.ok⟩
  · rintro D rc n lb Φ I y ⟨x, rfl, rfl, hx⟩ ha hy
    refine ⟨hpl D x _, nth_two _ _ _ (hm x), ?_⟩
    have h1 := (hround D rc n x I y hx ha hy).go
    rw [appK_eq, arrK_eq] at h1
    exact h1
  · rintro D rc lb Φ ⟨x, rfl, rfl, hx⟩
    refine ⟨nth_two _ _ _ (hm x), fun o => ?_⟩
    rw [setK_eq]
    have h1 := (hdone D x o hx).go
    rw [appK_eq] at h1
    show Q _ _ _ ((B x ++ twoB D _).set _ _) _
    unfold twoB
    rw [set_two _ _ _ _ (hm x)]
    exact h1
  · rintro D rc lb Φ ⟨x, c, rfl, rfl, hx⟩
    refine ⟨c, nth_two _ _ _ (hm x), fun o => ?_⟩
    rw [setK_eq]
    have h1 := (hstop D c x o hx).go
    rw [appK_eq] at h1
    unfold twoB
    rw [set_two _ _ _ _ (hm x)]
    exact h1
end Go.Proofs.YtikjigkkhdkibaaGreatDoor.W

/- Rules: an append of so many zeros; results said otherwise. Over any program. -/
namespace Go.Proofs.YtikjigkkhdkibaaGreatDoor.W
open Go.RowKit
variable {P : Program} {nt : Nat} {ro : Option Nat} {env env' : Env} {ds : List Deferred} {lb lb' : LBs} {Φ Φ' : Facts} {ω : Amb} {A : Nat → Prop} {w : World} {E : Operand → Value}
variable {d : Option Tmp} {ty : TypeId} {pos : String} {af : Array Edge} {g : Option (Nat × Bool)} {kp : Kp} {q : SV → LBs → Facts → Prop}
theorem run_append_z {t u e : TypeId} {ku kd : IntKind} {i : TypeInfo} {z : Value} (ht : P.underlying t = some (.slice e)) (hu : P.underlying u = some (.int ku)) (hi : P.info? e = some i) (hz : i.zero = some z) {p : Option Addr} {l : Nat} (hl : 1 ≤ l) (hb : l * i.bytes ≤ 140737488355328) (h63 : l ≤ 9223372036854775807) (h0 : 0 < i.size) :
    (Builtin.append_ #[t, u] ty #[.slice p 0 0, .int kd l]).run P w = .ok (.slice (some ⟨w.heap.size, 0, none⟩) l (grownCap w l 0 e))
        (w.drew.alloc (.cells (Builtin.zeroCells z.cells l ++ Builtin.zeroCells z.cells (grownCap w l 0 e - l)) e)) := by
  have h1 : IntKind.i64.wrap (l : Int) = l := IntWalk.i64_in _ (by omega)
  have h2 : ¬ ((l : Int) < 0) := by omega
  have h3 : ¬ (281474976710656 < (l : Int) * (i.bytes : Int)) := by
    have : (l : Int) * (i.bytes : Int) = ((l * i.bytes : Nat) : Int) := by push_cast; rfl
    omega
  have h4 : ¬ (l = 0) := by omega
  have h5 : ¬ (9223372036854775807 < (l : Int)) := by omega
  have h6 : ¬ (281474976710656 < Builtin.nextslicecap l 0 * i.bytes) := by
    have := growslice_fits (need := l) (old := 0) (bytes := i.bytes) (by omega) hb
    omega
  have h7 : ¬ (l * i.size = 0) := by
    intro h; rcases Nat.mul_eq_zero.1 h with h | h <;> omega
  have h8 : (Builtin.firstCells i.size 0 (.slice p 0 0)).run P w.drew = .ok #[] w.drew := by
    cases p <;> simp [Builtin.firstCells, loadCells, loadCellsFrom]
  simp [Builtin.append_, tUnd ht, tUnd hu, Go.sizeOf, typeInfo, zeroValue, hi, hz, asInt, asIntOf, h1, h2, h3, h4, h5, h6, h7, h8, Question.forced, newRow, grownCap, program, Sem.run, Result.andThen]
theorem zeroCells_take (z : Array Value) (l m : Nat) : (Builtin.zeroCells z l ++ Builtin.zeroCells z m).toList.take (l * z.size) = (List.replicate l z.toList).flatten := by
  rw [Array.toList_append, List.take_left' (by simp [Builtin.zeroCells])]
  rw [← range_made]
  simp [Builtin.zeroCells]
/-- what an append of so many zeros onto nothing is to be shown -/
structure ApZ (lb : LBs) (Φ : Facts) (e : TypeId) (k bytes : Nat) (zs : List Value) (l : Int) (q : SV → LBs → Facts → Prop) : Prop where
  h : ∃ (α : Type) (enc : α → List SV) (x : α), dens (enc x) = zs ∧ okE enc k x ∧ 1 ≤ l ∧ l.toNat * bytes ≤ 140737488355328 ∧ l ≤ 9223372036854775807 ∧ 0 < k ∧
    ∀ b c, l.toNat ≤ c → appK lb [(b, .vec enc k e (some ⟨b, 0, none⟩) l.toNat c (List.replicate l.toNat x))] fun lb' => lenK lb 0 fun i => q (.vec i (some ⟨b, 0, none⟩) l.toNat c) lb' Φ
def isIntT (P : Program) (u : TypeId) : Bool := match P.underlying u with
  | some (.int _) => true
  | _ => false
theorem SemO.appendZ {x y : Operand} {t u : TypeId} (h : evS env x fun vx => evS env y fun vy => match vx, vy with
      | .raw (.slice _ 0 0), .int _ l => isIntT P u = true ∧ appTy P t t fun e k bytes => match P.info? e with
        | some i => match i.zero with
          | some z => ApZ lb Φ e k bytes z.cells.toList l q
          | none => False
        | none => False
      | _, _ => False) : SemO P kp (.call ⟨.builtin .append, #[x, y], #[t, u]⟩) ty env lb Φ q := by
  refine ⟨fun E d pos af g ω w he hr => ?_⟩
  obtain ⟨vx, hx, hh⟩ := evS_ok he h
  clear h
  obtain ⟨vy, hy, h⟩ := evS_ok he hh
  clear hh
  split at h
  · rename_i pz kd l
    obtain ⟨hu, h⟩ := h
    obtain ⟨e, f, inf, z, h1, h2, h3, h4, h5, hh⟩ := appTy_ok h
    clear h
    rw [h3] at hh
    simp only [h4] at hh
    obtain ⟨α, enc, x0, hz, hok, hl1, hb, h63, hk, hq⟩ := hh.h
    obtain ⟨ku, hku⟩ : ∃ ku, P.underlying u = some (.int ku) := by
      unfold isIntT at hu
      split at hu
      · rename_i ku hk; exact ⟨ku, hk⟩
      · cases hu
    obtain ⟨m, rfl⟩ : ∃ m : Nat, l = m := ⟨l.toNat, by omega⟩
    simp only [Int.toNat_natCast] at hq hb
    have hrun := run_append_z (P := P) (ty := ty) (w := w) (p := pz) (kd := kd) h1 hku h3 h4 (l := m) (by omega) hb (by omega) hk
    have hge := grownCap_ge w m 0 e
    have hcm : grownCap w m 0 e ≤ maxLen := grownCap_le_maxLen w m 0 e (by unfold maxLen; omega)
    have hq' := hq w.heap.size (grownCap w m 0 e) hge
    rw [appK_eq, lenK_eq] at hq'
    have hr2 := hr.call (kept_drew w)
    refine ⟨_, _, _, _, _, hq', x_append hx hy hrun, .inl rfl, ?_, .of ((kept_drew w).trans (Kept.alloc _ _ _))⟩
    refine hr2.alloc (b := .vec enc inf.size e (some ⟨w.heap.size, 0, none⟩) m (grownCap w m 0 e) (List.replicate m x0)) (fun _ _ _ h => by cases h) rfl ⟨_, _, rfl, Thaw.zero _, ?_, ?_⟩ ?_
    · simp only [Array.size_append, size_zeroCells, h5, ← Nat.add_mul]
      congr 1
      omega
    · rw [flat_replicate, hz, ← h5]
      exact zeroCells_take _ _ _
    · exact ⟨by simp, hge, hcm, fun y hy => by rw [List.eq_of_mem_replicate hy]; exact hok, fun _ => rfl, fun h => by cases h⟩
  · exact h.elim
/-- what is known, said otherwise ahead of an operation -/
theorem SemO.imp {op : Op} (hi : Imp P lb Φ lb Φ') (h : SemO P kp op ty env lb Φ' q) : SemO P kp op ty env lb Φ q := ⟨fun E d pos af g ω w he hr => h.h E d pos af g ω w he (hi ω w hr)⟩
/-- a contract's result, said otherwise: the same value, the same blocks -/
theorem Ct.said {f : FuncId} {bs : LBs} {args : List SV} {Φ0 : Facts} {β : Type} {res res' : β → SV} {bo bo' : β → LBs} {fs : β → Facts} {pr : β → Prop} (h : Ct P f bs args Φ0 (Rs res bo fs pr)) (hv : ∀ x, (res x).den = (res' x).den) (hb : ∀ x Φ, Imp P (bo x) Φ (bo' x) Φ) : Ct P f bs args Φ0 (Rs res' bo' fs pr) :=
  ⟨fun M A w hr => (h.h M A w hr).mono fun _ _ ⟨_, _, _, he, ⟨x, h1, h2, h3, h4⟩, h5⟩ => ⟨res' x, bo' x, fs x, by rw [he, h1, hv x], ⟨x, rfl, rfl, rfl, h4⟩, by subst h2 h3; exact hb x _ _ _ h5⟩⟩
/-- the blocks that are lent, said otherwise -/
theorem Ct.lentAs {f : FuncId} {bs bs' : LBs} {args : List SV} {Φ0 : Facts} {R : SV → LBs → Facts → Prop} (h : Ct P f bs args Φ0 R) (hb : Imp P bs' Φ0 bs Φ0) : Ct P f bs' args Φ0 R := ⟨fun M A w hr => h.h M A w (hb _ _ hr)⟩
end Go.Proofs.YtikjigkkhdkibaaGreatDoor.W

/- Maps of numbers, by ints: lookups, writes, deletes; a map held against a list of bins. Over any program. -/
namespace Go.Proofs.YtikjigkkhdkibaaGreatDoor.W
open Go.RowKit
variable {P : Program} {nt : Nat} {ro : Option Nat} {env env' : Env} {ds : List Deferred} {lb lb' : LBs} {Φ Φ' : Facts} {ω : Amb} {A : Nat → Prop} {w : World} {E : Operand → Value}
variable {d : Option Tmp} {ty : TypeId} {pos : String} {af : Array Edge} {g : Option (Nat × Bool)} {kp : Kp} {q : SV → LBs → Facts → Prop}
section
variable {κ : Type} [DecidableEq κ]
theorem mfind_succ {L : List (κ × SV)} {x : κ} {i : Nat} : mfind L x (i + 1) = (mfind L x i).map fun r => (r.1 + 1, r.2) := by
  induction L generalizing i with
  | nil => rfl
  | cons a L ih =>
    obtain ⟨k, v⟩ := a
    simp only [mfind]
    split
    · rfl
    · exact ih
theorem mput_cons {k : κ} {v : SV} {L : List (κ × SV)} {x : κ} {u : SV} : mput ((k, v) :: L) x u = if x = k then (x, u) :: L else (k, v) :: mput L x u := by
  unfold mput
  simp only [mfind]
  by_cases e : x = k
  · simp [e]
  · simp only [if_neg e, mfind_succ]
    cases h : mfind L x 0 with
    | none => rfl
    | some r => rfl
theorem mdel_cons {k : κ} {v : SV} {L : List (κ × SV)} {x : κ} : mdel ((k, v) :: L) x = if x = k then L else (k, v) :: mdel L x := by
  unfold mdel
  simp only [mfind]
  by_cases e : x = k
  · simp [e]
  · simp only [if_neg e, mfind_succ]
    cases h : mfind L x 0 with
    | none => rfl
    | some r => rfl
theorem eraseIdx_map' {α β : Type _} (f : α → β) (l : List α) (j : Nat) : (l.eraseIdx j).map f = (l.map f).eraseIdx j := by
  induction l generalizing j with
  | nil => rfl
  | cons a l ih =>
    cases j with
    | zero => rfl
    | succ j => simp [ih]
omit [DecidableEq κ] in
theorem map_erase_eq {ek : κ → Value} {es : Array MapEntry} {L : List (κ × SV)} {j : Nat} (hm : es.toList.map (fun e => (e.key, e.val)) = L.map (fun x => (ek x.1, x.2.den))) :
    ((es.eraseIdxIfInBounds j).toList.map fun e => (e.key, e.val)) = (L.eraseIdx j).map fun x => (ek x.1, x.2.den) := by
  rw [Array.toList_eraseIdxIfInBounds, eraseIdx_map', hm, ← eraseIdx_map']
/-- what a deletion is to be shown -/
theorem SemO.delete {T T2 : TypeId} {m k : Operand} (h : evS env m fun mv => evS env k fun kv => match mv with
      | .mp i b => match nth lb i, P.underlying T with
        | some (b', .map (κ := κ') ek L), some (.map K _) => ∃ (_ : DecidableEq κ'), KeyLaw P ek K ∧ KeyIs ek kv fun x => Ob (b' = b ∧ okKp kp i = true) (∀ L', L' = mdel L x → setK lb i (b', .map ek L') fun lb => q (.tup []) lb Φ)
        | _, _ => False
      | _ => False) : SemO P kp (.call ⟨.builtin .delete, #[m, k], #[T, T2]⟩) ty env lb Φ q := by
  refine ⟨fun E d pos af g ω w he hr => ?_⟩
  obtain ⟨mv, hmv, h⟩ := evS_ok he h
  obtain ⟨kv, hkv, h⟩ := evS_ok he h
  split at h
  · rename_i i b
    split at h
    · rename_i b' κ' ek L K _ hi hT
      obtain ⟨hd, hl, hk⟩ := h
      obtain ⟨key, hke, ⟨rfl, hokp⟩, hq⟩ := hk.h
      have hq := hq _ rfl
      rw [setK_eq] at hq
      obtain ⟨es, clock, g1, g2, g3, g4⟩ := hr.mapAt hi
      obtain ⟨dsc, l1, l2, l3, l4⟩ := hl.h
      have hf := findKey_ok hl key g2 w
      have hmv' : E m = .map (some b') := hmv
      have hrun : ∃ es', (Builtin.delete_ #[T, T2] ty #[E m, E k]).run P w = .ok (.tuple #[]) (w.putObj b' (.map es' clock)) ∧ es'.toList.map (fun e => (e.key, e.val)) = (mdel L key).map (fun x => (ek x.1, x.2.den)) ∧ (es'.toList.map (·.born)).Nodup ∧ ∀ e ∈ es'.toList, e.born < clock := by
        cases hfind : mfind L key 0 with
        | none =>
          rw [hfind] at hf
          refine ⟨es, ?_, ?_, g3, g4⟩
          · rw [hmv', hkv, hke]
            have := run_setMap (P := P) (o' := .map es clock) g1 (fun _ _ _ h => by cases h)
            simp [Builtin.delete_, tUnd hT, Result.andThen, run_getMap g1, l3, hf, this]
          · simp [mdel, hfind, g2]
        | some r =>
          obtain ⟨j, u⟩ := r
          rw [hfind] at hf
          refine ⟨es.eraseIdxIfInBounds j, ?_, ?_, ?_, ?_⟩
          · rw [hmv', hkv, hke]
            have := run_setMap (P := P) (o' := .map (es.eraseIdxIfInBounds j) clock) g1 (fun _ _ _ h => by cases h)
            simp [Builtin.delete_, tUnd hT, Result.andThen, run_getMap g1, l3, hf, this]
          · simp only [mdel, hfind]
            exact map_erase_eq g2
          · rw [Array.toList_eraseIdxIfInBounds, eraseIdx_map']
            exact g3.sublist (List.eraseIdx_sublist _ _)
          · intro e he
            rw [Array.toList_eraseIdxIfInBounds] at he
            exact g4 e (List.mem_of_mem_eraseIdx he)
      obtain ⟨es', r1, r2, r3, r4⟩ := hrun
      refine ⟨_, _, _, _, _, hq, x_builtin rfl (by simp [builtin, r1, Result.andThen, SV.den, dens]), .inl rfl, hr.turn hi (fun _ _ _ h => by cases h) trivial (kept_putObj w b' (.map es' clock)) rfl ⟨_, World.putObj_heap_same (lt_of_some g1), es', clock, rfl, r2, r3, r4⟩ trivial, .at hokp hi trivial (kept_putObj w b' (.map es' clock))⟩
    · exact h.elim
  · exact h.elim
end
/-! ### numbers by ints -/
abbrev MapU := List (Int × UInt64)
def encM (M : MapU) : List (Int × SV) := M.map fun x => (x.1, .int .u64 x.2.toNat)
def getM : MapU → Int → UInt64
  | [], _ => 0
  | (k, v) :: r, x => if x = k then v else getM r x
def putM : MapU → Int → UInt64 → MapU
  | [], x, u => [(x, u)]
  | (k, v) :: r, x, u => if x = k then (x, u) :: r else (k, v) :: putM r x u
def delM : MapU → Int → MapU
  | [], _ => []
  | (k, v) :: r, x => if x = k then r else (k, v) :: delM r x
theorem mput_encM (M : MapU) (x : Int) (u : UInt64) : mput (encM M) x (.int .u64 u.toNat) = encM (putM M x u) := by
  induction M with
  | nil => rfl
  | cons a M ih =>
    obtain ⟨k, v⟩ := a
    show mput ((k, SV.int .u64 v.toNat) :: encM M) x _ = _
    rw [mput_cons, putM, ih]
    split <;> rfl
theorem mdel_encM (M : MapU) (x : Int) : mdel (encM M) x = encM (delM M x) := by
  induction M with
  | nil => rfl
  | cons a M ih =>
    obtain ⟨k, v⟩ := a
    show mdel ((k, SV.int .u64 v.toNat) :: encM M) x = _
    rw [mdel_cons, delM, ih]
    split <;> rfl
theorem mlookU {M : MapU} {x : Int} {y : SV → Prop} {n : Prop} (h : y (.int .u64 (getM M x).toNat)) (hn : y (.int .u64 0) → n) : mlook (encM M) x y n := by
  induction M with
  | nil => exact hn h
  | cons a M ih =>
    obtain ⟨k, v⟩ := a
    refine BR.mk (fun e => ?_) (fun e => ?_)
    · rw [getM, if_pos (of_decide_eq_true e)] at h; exact h
    · rw [getM, if_neg (of_decide_eq_false e)] at h; exact ih h
/-- the map holds what the bins hold -/
structure MapOf (M : MapU) (l : List Bin) : Prop where
  nodup : (M.map (·.1)).Nodup
  mem : ∀ k v, (k, v) ∈ M ↔ v ≠ 0 ∧ v.toNat = lookG l k
  right : RightG l
theorem getM_mem {M : MapU} {k : Int} (h : (M.map (·.1)).Nodup) {v : UInt64} (hm : (k, v) ∈ M) : getM M k = v := by
  induction M with
  | nil => simp at hm
  | cons a M ih =>
    obtain ⟨k', v'⟩ := a
    rw [List.map_cons, List.nodup_cons] at h
    rw [getM]
    rcases List.mem_cons.1 hm with e | hm
    · cases e; rw [if_pos rfl]
    · rw [if_neg (fun e => h.1 (by rw [← e]; exact List.mem_map_of_mem (f := (·.1)) hm))]
      exact ih h.2 hm
theorem getM_not {M : MapU} {k : Int} (h : ∀ v, (k, v) ∉ M) : getM M k = 0 := by
  induction M with
  | nil => rfl
  | cons a M ih =>
    obtain ⟨k', v'⟩ := a
    rw [getM, if_neg (fun e => h v' (by rw [e]; exact List.mem_cons_self ..))]
    exact ih fun v hv => h v (List.mem_cons_of_mem _ hv)
theorem MapOf.get {M : MapU} {l : List Bin} (h : MapOf M l) (k : Int) : (getM M k).toNat = lookG l k := by
  by_cases e : ∃ v, (k, v) ∈ M
  · obtain ⟨v, hv⟩ := e
    rw [getM_mem h.nodup hv]
    exact ((h.mem k v).1 hv).2
  · rw [getM_not fun v hv => e ⟨v, hv⟩]
    have h0 : lookG l k = 0 := by
      refine Classical.byContradiction fun hne => ?_
      obtain ⟨x, hx, hk⟩ := look_pos hne
      refine e ⟨x.n, (h.mem k x.n).2 ⟨h.right.some_ x hx, ?_⟩⟩
      rw [← hk, look_some h.right hx]
    rw [h0]; rfl
theorem putM_keys {M : MapU} {x : Int} {u : UInt64} (k : Int) : k ∈ (putM M x u).map (·.1) ↔ k = x ∨ k ∈ M.map (·.1) := by
  induction M with
  | nil => simp [putM]
  | cons a M ih =>
    obtain ⟨k', v'⟩ := a
    rw [putM]
    split
    · rename_i e; subst e; simp
    · rw [List.map_cons, List.map_cons, List.mem_cons, List.mem_cons, ih]
      constructor
      · rintro (h | h | h) <;> simp [h]
      · rintro (h | h | h) <;> simp [h]
theorem putM_nodup {M : MapU} (h : (M.map (·.1)).Nodup) (x : Int) (u : UInt64) : ((putM M x u).map (·.1)).Nodup := by
  induction M with
  | nil => simp [putM]
  | cons a M ih =>
    obtain ⟨k', v'⟩ := a
    rw [List.map_cons, List.nodup_cons] at h
    rw [putM]
    split
    · rename_i e; subst e; rw [List.map_cons, List.nodup_cons]; exact h
    · rename_i e
      rw [List.map_cons, List.nodup_cons]
      exact ⟨fun hk => ((putM_keys _).1 hk).elim (fun h => e h.symm) h.1, ih h.2⟩
theorem putM_mem {M : MapU} (h : (M.map (·.1)).Nodup) (x : Int) (u : UInt64) (k : Int) (v : UInt64) : (k, v) ∈ putM M x u ↔ if k = x then v = u else (k, v) ∈ M := by
  induction M with
  | nil =>
    simp only [putM, List.mem_singleton, Prod.mk.injEq, List.not_mem_nil]
    split <;> simp_all
  | cons a M ih =>
    obtain ⟨k', v'⟩ := a
    rw [List.map_cons, List.nodup_cons] at h
    have hn : ∀ v, (k', v) ∉ M := fun v hv => h.1 (List.mem_map_of_mem (f := (·.1)) hv)
    rw [putM]
    by_cases e : x = k'
    · subst e
      rw [if_pos rfl]
      by_cases ek : k = x
      · subst ek; simp [hn]
      · simp [ek]
    · rw [if_neg e, List.mem_cons, ih h.2]
      by_cases ek : k = x
      · subst ek; simp [e]
      · simp [ek]
theorem delM_mem {M : MapU} (h : (M.map (·.1)).Nodup) (x : Int) (k : Int) (v : UInt64) : (k, v) ∈ delM M x ↔ k ≠ x ∧ (k, v) ∈ M := by
  induction M with
  | nil => simp [delM]
  | cons a M ih =>
    obtain ⟨k', v'⟩ := a
    rw [List.map_cons, List.nodup_cons] at h
    have hn : ∀ v, (k', v) ∉ M := fun v hv => h.1 (List.mem_map_of_mem (f := (·.1)) hv)
    rw [delM]
    by_cases e : x = k'
    · subst e
      rw [if_pos rfl]
      by_cases ek : k = x
      · subst ek; simp [hn]
      · simp [ek]
    · rw [if_neg e, List.mem_cons, ih h.2, List.mem_cons]
      constructor
      · rintro (h | ⟨h1, h2⟩)
        · cases h; exact ⟨fun c => e c.symm, .inl rfl⟩
        · exact ⟨h1, .inr h2⟩
      · rintro ⟨h1, h | h⟩
        · exact .inl h
        · exact .inr ⟨h1, h⟩
theorem delM_sub (M : MapU) (x : Int) : (delM M x).Sublist M := by
  induction M with
  | nil => exact .slnil
  | cons a M ih =>
    obtain ⟨k', v'⟩ := a
    rw [delM]
    split
    · exact List.sublist_cons_self _ _
    · exact ih.cons_cons _
/-- one bin more -/
def addM (M : MapU) (k : Int) (n : UInt64) : MapU := if satP (getM M k) n = 0 then delM (putM M k (satP (getM M k) n)) k else putM M k (satP (getM M k) n)
theorem MapOf.add {M : MapU} {l : List Bin} (h : MapOf M l) (k : Int) (n : UInt64) : MapOf (addM M k n) (putG k n l) := by
  have hs : (satP (getM M k) n).toNat = lookG (putG k n l) k := by rw [satP_nat, h.get, look_put h.right, if_pos rfl]
  have hp := putM_nodup h.nodup k (satP (getM M k) n)
  have hlk : ∀ k', k' ≠ k → lookG (putG k n l) k' = lookG l k' := fun k' hk => by rw [look_put h.right, if_neg (fun e => hk e.symm)]
  refine ⟨?_, fun k' v => ?_, putG_right h.right⟩
  · unfold addM
    split
    · exact hp.sublist ((delM_sub _ _).map _)
    · exact hp
  · unfold addM
    by_cases e : k' = k
    · subst e
      split
      · rename_i h0
        rw [delM_mem hp]
        rw [h0] at hs
        constructor
        · exact fun hh => absurd rfl hh.1
        · rintro ⟨h1, h2⟩
          exact absurd (UInt64.toNat_inj.1 (h2.trans hs.symm)) h1
      · rename_i h0
        rw [putM_mem h.nodup, if_pos rfl, ← hs]
        exact ⟨fun h => ⟨h ▸ h0, by rw [h]⟩, fun h => UInt64.toNat_inj.1 h.2⟩
    · rw [hlk k' e, ← h.mem]
      split
      · rw [delM_mem hp, putM_mem h.nodup, if_neg e]
        exact ⟨fun h => h.2, fun h => ⟨e, h⟩⟩
      · rw [putM_mem h.nodup, if_neg e]
def addsM (M : MapU) (m : List Bin) : MapU := m.foldl (fun M b => addM M b.at_ b.n) M
theorem MapOf.adds {M : MapU} {l : List Bin} (h : MapOf M l) (m : List Bin) : MapOf (addsM M m) (putsG l m) := by
  unfold addsM putsG
  induction m generalizing M l with
  | nil => exact h
  | cons b m ih => exact ih (h.add b.at_ b.n)
theorem MapOf.nil : MapOf [] [] := ⟨by simp, fun k v => ⟨fun h => by simp at h, fun ⟨h1, h2⟩ => absurd (UInt64.toNat_inj.1 (h2.trans rfl)) h1⟩, ⟨by simp, by simp⟩⟩
theorem MapOf.uniq {M : MapU} {l m : List Bin} (h : MapOf M l) (k : MapOf M m) : l = m := h.right.ext k.right fun b => by rw [← h.get, ← k.get]
/-- the keys, in order -/
def keysM (M : MapU) : List Int := (M.map (·.1)).mergeSort fun x y => decide (x ≤ y)
theorem MapOf.keys {M : MapU} {l : List Bin} (h : MapOf M l) : (M.map (·.1)).Perm (l.map (·.at_)) := by
  have hn : (l.map (·.at_)).Nodup := List.pairwise_map.2 (h.right.rise.imp fun hlt e => by omega)
  refine (List.perm_ext_iff_of_nodup h.nodup hn).2 fun k => ?_
  simp only [List.mem_map]
  constructor
  · rintro ⟨⟨k', v⟩, hm, rfl⟩
    obtain ⟨h1, h2⟩ := (h.mem _ _).1 hm
    have : lookG l k' ≠ 0 := fun e => h1 (UInt64.toNat_inj.1 (h2.trans e))
    exact look_pos this
  · rintro ⟨x, hx, rfl⟩
    exact ⟨(x.at_, x.n), (h.mem _ _).2 ⟨h.right.some_ x hx, (look_some h.right hx).symm⟩, rfl⟩
theorem MapOf.keysM_eq {M : MapU} {l : List Bin} (h : MapOf M l) : keysM M = l.map (·.at_) := by
  unfold keysM
  rw [mergeSort_of_perm_i h.keys]
  refine List.mergeSort_of_pairwise (List.pairwise_map.2 (h.right.rise.imp fun hlt => decide_eq_true (by omega)))
theorem MapOf.bin {M : MapU} {l : List Bin} (h : MapOf M l) {x : Bin} (hx : x ∈ l) : getM M x.at_ = x.n := UInt64.toNat_inj.1 ((h.get _).trans (look_some h.right hx))
theorem rise_len {l : List Int} (h : l.Pairwise (· < ·)) (a b : Int) (hl : ∀ x ∈ l, a ≤ x ∧ x < b) (hab : a ≤ b) : (l.length : Int) ≤ b - a := by
  induction l generalizing a with
  | nil => simp; omega
  | cons x l ih =>
    have hx := hl x (by simp)
    have := ih (List.pairwise_cons.1 h).2 (x + 1) (fun y hy => ⟨(List.pairwise_cons.1 h).1 y hy, (hl y (by simp [hy])).2⟩) (by omega)
    rw [List.length_cons]; omega
theorem RightG.len {l : List Bin} (h : RightG l) {b : Int} (hl : ∀ x ∈ l, 0 ≤ x.at_ ∧ x.at_ < b) (hb : 0 ≤ b) : (l.length : Int) ≤ b := by
  have := rise_len (l := l.map (·.at_)) (List.pairwise_map.2 h.rise) 0 b (fun x hx => by obtain ⟨y, hy, rfl⟩ := List.mem_map.1 hx; exact hl y hy) hb
  rw [List.length_map] at this; omega
/-- the map as the kit's readers see it -/
theorem Rel.ownsM {H : Type} (h : Rel P lb Φ ω w) {i b : Nat} {M : MapU} {l : List Bin} (hi : nth lb i = some (b, .map (Value.int .i64) (encM M))) (hM : MapOf M l) {K : TypeId} (hK : P.underlying K = some (.int .i64)) (hr : ∀ x ∈ l, 0 ≤ x.at_ ∧ x.at_ < 10000) :
    ∃ D0 : DataW H, w.ownsMap P K (fun _ => some (.lit (.bool true), [])) b 10000 D0 ∧ (intKeys D0).Perm (M.map (·.1)) ∧ Maps.size D0 ≤ 10000 := by
  obtain ⟨es, clock, g1, g2, g3, g4⟩ := h.mapAt hi
  have hlen := hM.right.len hr (by omega)
  have hkl : (M.map (·.1)).length = l.length := by rw [hM.keys.length_eq, List.length_map]
  have hel : es.size = M.length := by
    have := congrArg List.length g2
    simpa [encM] using this
  have hk : es.toList.map (·.key) = M.map fun x => encZ x.1 := by
    have := congrArg (List.map (·.1)) g2
    simpa [encM, Function.comp_def] using this
  have hkr : ∀ x ∈ M, 0 ≤ x.1 ∧ x.1 < 10000 := fun x hx => by
    obtain ⟨y, hy, e⟩ := List.mem_map.1 (hM.keys.mem_iff.1 (List.mem_map_of_mem (f := (·.1)) hx))
    have := hr y hy
    omega
  have hwf : ∀ a : Int, 0 ≤ a ∧ a < 10000 → (Lit.int .i64 a).wf = true := fun a ha => by
    have e1 : IntKind.i64.min = -9223372036854775808 := rfl
    have e2 : IntKind.i64.max = 9223372036854775807 := rfl
    simp only [Lit.wf, Bool.and_eq_true, decide_eq_true_eq, e1, e2]; omega
  have hmem : ∀ e ∈ es.toList, ∃ a : Int, e.key = encZ a ∧ (Lit.int .i64 a).wf = true := fun e he => by
    have h1 := List.mem_map_of_mem (f := (·.key)) he
    rw [hk] at h1
    obtain ⟨x, hx, e1⟩ := List.mem_map.1 h1
    exact ⟨x.1, e1.symm, hwf _ (hkr x hx)⟩
  have hrd : ∀ e ∈ es.toList, ∀ a : Int, e.key = encZ a → (Lit.int .i64 a).wf = true → WideElems.rd P K (fun _ => some ((.lit (.bool true) : DataW H), [])) e = some (.int .i64 a, .lit (.bool true)) := fun e he a ha hw => by
    have := WideElems.rd_mk (P := P) (k := K) (R := fun _ => some ((.lit (.bool true) : DataW H), [])) (key := e.key) (val := e.val) (born := e.born) (kl := .int .i64 a) (yv := (.lit (.bool true), [])) (by rw [ha]; exact Maps.keyOf_int_mk hK hw) rfl
    exact this
  refine ⟨.map ((es.toList.map (WideElems.rg P K fun _ => some (.lit (.bool true), []))).foldr DataW.insert []), ⟨es, clock, g1, ⟨by rw [hel]; rw [List.length_map] at hkl; have e9 : maxLen = 9223372036854775807 := rfl; omega, ⟨g4, g3, ?_⟩, fun e he => ?_⟩, ?_, rfl⟩, ?_, ?_⟩
  · rw [hk]
    exact List.pairwise_map.2 ((List.pairwise_map.1 hM.nodup).imp fun hne e => hne (encZ_inj e))
  · obtain ⟨a, ha, hw⟩ := hmem e he
    exact ⟨_, hrd e he a ha hw⟩
  · rw [hel]; rw [List.length_map] at hkl; omega
  · have hp := (WideShapes.sorted_perm (es.toList.map (WideElems.rg P K fun _ => some ((.lit (.bool true) : DataW H), [])))).map fun p => intOf p.1
    refine hp.trans ?_
    rw [List.map_map]
    have : es.toList.map ((fun p => intOf p.1) ∘ WideElems.rg P K fun _ => some ((.lit (.bool true) : DataW H), [])) = M.map (·.1) := by
      have e1 : es.toList.map ((fun p => intOf p.1) ∘ WideElems.rg P K fun _ => some ((.lit (.bool true) : DataW H), [])) = (es.toList.map (·.key)).map fun v => match v with | .int _ a => a | _ => 0 := by
        rw [List.map_map]
        refine List.map_congr_left fun e he => ?_
        obtain ⟨a, ha, hw⟩ := hmem e he
        simp only [Function.comp_apply, WideElems.rg_of (hrd e he a ha hw), intOf, ha]
      rw [e1, hk, List.map_map]
      rfl
    rw [this]
  · show List.length _ ≤ 10000
    rw [(WideShapes.sorted_perm _).length_eq, List.length_map, Array.length_toList, hel]; rw [List.length_map] at hkl; omega
end Go.Proofs.YtikjigkkhdkibaaGreatDoor.W

/- A statement whose order Go leaves open, where now and then two may come first, the second loud. Over any program. -/
namespace Go.Proofs.YtikjigkkhdkibaaGreatDoor.W
open Go.RowKit
/-- an order, and where two that are quiet may come first both orders -/
inductive Pq where
  | nil
  | many (l : List Pk) (r : Pq)
  | two (n : Nat) (r : Pq) (m : Nat) (r' : Pq) (b : Bool)
def Pq.len : Pq → Nat
  | .nil => 0
  | .many l r => l.length + r.len
  | .two _ r _ r' _ => max r.len r'.len + 1
def Pq.all (f : Pk → Bool) : Pq → Bool
  | .nil => true
  | .many l r => l.all f && r.all f
  | .two _ r m r' b => r.all f && r'.all f && (!b || f (.l m))
def Pq.isLd (j : Nat) : Pq → Bool
  | .nil => false
  | .many l r => Go.Proofs.YtikjigkkhdkibaaGreatDoor.W.isLd l j || r.isLd j
  | .two _ r m r' b => r.isLd j || r'.isLd j || (b && j == m)
def Pq.isWd (j : Nat) : Pq → Bool
  | .nil => false
  | .many l r => Go.Proofs.YtikjigkkhdkibaaGreatDoor.W.isWd l j || r.isWd j
  | .two _ r m r' b => r.isWd j || r'.isWd j || (b && j == m)
def okQ (ops : Array Oper) (ld wd : Nat → Bool) : Pq → Array Bool → Bool
  | .nil, listed => (Region.ready .any ops listed).isEmpty
  | .many l r, listed => okPre (fun listed => okQ ops ld wd r listed) ops ld wd l listed
  | .two n r m r' b, listed => ((Region.ready .any ops listed).all fun k => k == n || k == m) && (Region.ready .any ops listed).contains n && (Region.ready .any ops listed).contains m && okQ ops ld wd r (listed.setIfInBounds n true) && okQ ops ld wd r' (listed.setIfInBounds m true) && (!b || (ld m && wd m))
noncomputable def stepU (P : Program) (nt : Nat) (b : Bool) (ops : List Oper) (n : Nat) (env : Env) (lb : LBs) (Φ : Facts) (K : Env → LBs → Facts → Prop) : Prop :=
  match nth ops n with
  | some o => gd ops env o.guard (wpO P (match b with | true => none | false => some []) o.op o.type env lb Φ fun v lb Φ => putE nt env o.dst v fun env => K env lb Φ) (putE nt env o.dst .undef fun env => K env lb Φ)
  | none => False
noncomputable def wpU (P : Program) (nt : Nat) (ops : List Oper) (mk : List Nat) (ks : List (Nat × Nat)) (l : Pq) : Env → LBs → Facts → (Env → LBs → Facts → Prop) → Prop :=
  Pq.rec (motive := fun _ => Env → LBs → Facts → (Env → LBs → Facts → Prop) → Prop) (fun env lb Φ K => K env lb Φ)
    (fun l _ ih env lb Φ K => wpD P nt ops mk ks l env lb Φ fun env lb Φ => ih env lb Φ K)
    (fun n _ m _ b ih ih' env lb Φ K => Two (stepU P nt false ops n env lb Φ fun env lb Φ => ih env lb Φ K) (stepU P nt b ops m env lb Φ fun env lb Φ => ih' env lb Φ K)) l
section
variable {P : Program} {ro : Option Nat} {nt : Nat} {ω : Amb} {ds : List Deferred}
theorem wpU_ok {lo : List Oper} {mk : List Nat} {ks : List (Nat × Nat)} {ld wd : Nat → Bool} {K' : Act → World → Prop} (hlt : ∀ j, (ld j || wd j) = true → j < lo.toArray.size) :
    ∀ (r : Pq) {K : Env → LBs → Facts → Prop}, (∀ env lb Φ Mu a w, RA nt env ds a → Rel P lb Φ (ω.mu Mu) w → K env lb Φ → K' a w) → ∀ (listed : Array Bool) (env : Env) (lb : LBs) (Φ : Facts) (a : Act) (w wS : World) (fuel : Nat) (Mu : Foot), r.len ≤ fuel → okQ lo.toArray ld wd r listed = true → Closed .any lo.toArray listed → RA nt env ds a → Rel P lb Φ (ω.mu Mu) w → Rel P lb Φ (ω.mu Mu) wS → Kept No wS w →
      wpU P nt lo mk ks r env lb Φ K → Any P ro .any lo.toArray ld wd K' fuel (Kept No wS) (Kept (MsOf ks) wS) listed a w := by
  intro r
  induction r with
  | nil =>
    intro K hK listed env lb Φ a w wS fuel Mu _ hok _ hra hr hrS hk h
    have hn := ready_nil hok
    cases fuel with
    | zero => exact ⟨hn, hK _ _ _ Mu _ _ hra hr h⟩
    | succ n => exact ⟨fun _ => hK _ _ _ Mu _ _ hra hr h, by rw [hn]; simp⟩
  | many l r ih =>
    intro K hK listed env lb Φ a w wS fuel Mu hf hok hcl hra hr hrS hk h
    exact wpD_pre hlt (fun listed env lb Φ a w wS fuel Mu g1 g2 g3 g4 g5 g6 g7 g8 => ih hK listed env lb Φ a w wS fuel Mu g1 g2 g3 g4 g5 g6 g7 g8) l listed env lb Φ a w wS fuel Mu hf hok hcl hra hr hrS hk h
  | two n r m r' b ih ih' =>
    intro K hK listed env lb Φ a w wS fuel Mu hf hok hcl hra hr hrS hk h
    obtain ⟨fuel, rfl⟩ : ∃ m, fuel = m + 1 := ⟨fuel - 1, by simp only [Pq.len] at hf; omega⟩
    simp only [Pq.len] at hf
    have ofNo : ∀ {w w' : World}, Kept No w w' → Kept (MsOf ks) w w' := fun h => h.weaken fun _ _ h => h.elim
    simp only [okQ, Bool.and_eq_true] at hok
    obtain ⟨⟨⟨⟨⟨hal, hn⟩, hm⟩, ok1⟩, ok2⟩, okb⟩ := hok
    have one : ∀ (b : Bool) (n : Nat) (r : Pq), (b = true → ld n = true ∧ wd n = true) → r.len ≤ fuel → n ∈ Region.ready .any lo.toArray listed → okQ lo.toArray ld wd r (listed.setIfInBounds n true) = true →
        (∀ (listed : Array Bool) (env : Env) (lb : LBs) (Φ : Facts) (a : Act) (w wS : World) (fuel : Nat) (Mu : Foot), r.len ≤ fuel → okQ lo.toArray ld wd r listed = true → Closed .any lo.toArray listed → RA nt env ds a → Rel P lb Φ (ω.mu Mu) w → Rel P lb Φ (ω.mu Mu) wS → Kept No wS w →
          wpU P nt lo mk ks r env lb Φ K → Any P ro .any lo.toArray ld wd K' fuel (Kept No wS) (Kept (MsOf ks) wS) listed a w) →
        stepU P nt b lo n env lb Φ (fun env lb Φ => wpU P nt lo mk ks r env lb Φ K) →
        opStep P ro lo.toArray n (fun a' w' => ∃ S' T' : World → Prop, (ld n = false → Kept No wS w' ∧ ∀ w, S' w → Kept No wS w) ∧ (wd n = false → Kept (MsOf ks) wS w' ∧ ∀ w, T' w → Kept (MsOf ks) wS w) ∧ S' w' ∧ T' w' ∧ Any P ro .any lo.toArray ld wd K' fuel S' T' (listed.setIfInBounds n true) a' w') a w := by
      intro b n r hb hf hn ok ih h
      unfold stepU at h
      unfold opStep
      split at h
      · rename_i o ho
        rw [nth_eq] at ho
        have ho' : lo.toArray[n]? = some o := by simpa using ho
        simp only [ho']
        have fin : ∀ {a' : Act} {w' : World} {env' : Env} {lb' : LBs} {Φ' : Facts} {Mu' : Foot}, RA nt env' ds a' → Rel P lb' Φ' (ω.mu Mu') w' → wpU P nt lo mk ks r env' lb' Φ' K → (b = false → Kept No w w') →
            ∃ S' T' : World → Prop, (ld n = false → Kept No wS w' ∧ ∀ w, S' w → Kept No wS w) ∧ (wd n = false → Kept (MsOf ks) wS w' ∧ ∀ w, T' w → Kept (MsOf ks) wS w) ∧ S' w' ∧ T' w' ∧ Any P ro .any lo.toArray ld wd K' fuel S' T' (listed.setIfInBounds n true) a' w' := by
          intro a' w' env' lb' Φ' Mu' g1 g2 g3 g4
          have g5 : ld n = false ∨ wd n = false → Kept No wS w' := fun hl => by
            cases b with
            | false => exact hk.trans (g4 rfl)
            | true => obtain ⟨h1, h2⟩ := hb rfl; rw [h1, h2] at hl; simp at hl
          exact ⟨Kept No w', Kept (MsOf ks) w', fun hl => ⟨g5 (.inl hl), fun _ h2 => (g5 (.inl hl)).trans h2⟩, fun hl => ⟨ofNo (g5 (.inr hl)), fun _ h2 => (ofNo (g5 (.inr hl))).trans h2⟩, Kept.refl _ _, Kept.refl _ _, ih _ _ _ _ _ _ _ _ Mu' hf ok (hcl.set hn) g1 g2 g2 (Kept.refl _ _) g3⟩
        rcases wanted_ok hra h with ⟨hw, h1⟩ | ⟨hw, h1⟩
        · refine wpO_ok hra hr hw h1 fun v lb' Φ' w' Mu' hq hr' hk' => ?_
          obtain ⟨env', hra', hq⟩ := hra.put hq
          exact fin hra' hr' hq fun hb => by subst hb; exact Kept.weaken hk' fun b _ hb => by obtain ⟨i, hi, _⟩ := hb; simp at hi
        · refine o_skip hw ?_
          obtain ⟨env', hra', hq⟩ := hra.put h1
          exact fin hra' hr hq fun _ => Kept.refl _ _
      · exact h.elim
    refine ⟨fun h0 => ?_, fun j hj => ?_⟩
    · rw [h0] at hn; simp at hn
    · have h1 := List.all_eq_true.1 hal j hj
      simp only [Bool.or_eq_true, beq_iff_eq] at h1
      rcases h1 with rfl | rfl
      · exact one false _ r (fun h => by cases h) (by omega) hj ok1 (ih hK) h.h
      · exact one b _ r' (fun hb => by subst hb; simpa using okb) (by omega) hj ok2 (ih' hK) h.h'
theorem Pq.isLd_lt {ops : Array Oper} : ∀ {r : Pq}, (r.all fun p => match p with | .w n => decide (n < ops.size) | .l n => decide (n < ops.size) | _ => true) = true → ∀ {j : Nat}, (r.isLd j || r.isWd j) = true → j < ops.size
  | .nil, _, j, hj => by simp [Pq.isLd, Pq.isWd] at hj
  | .many l r, h, j, hj => by
    simp only [Pq.all, Bool.and_eq_true] at h
    simp only [Pq.isLd, Pq.isWd, Bool.or_eq_true] at hj
    rcases hj with (hj | hj) | (hj | hj)
    · exact Go.Proofs.YtikjigkkhdkibaaGreatDoor.W.isLd_lt h.1 (by simp [hj])
    · exact Pq.isLd_lt h.2 (by simp [hj])
    · exact Go.Proofs.YtikjigkkhdkibaaGreatDoor.W.isLd_lt h.1 (by simp [hj])
    · exact Pq.isLd_lt h.2 (by simp [hj])
  | .two n r m r' b, h, j, hj => by
    simp only [Pq.all, Bool.and_eq_true] at h
    simp only [Pq.isLd, Pq.isWd, Bool.or_eq_true] at hj
    have hm : (b && j == m) = true → j < ops.size := fun hh => by
      simp only [Bool.and_eq_true, beq_iff_eq] at hh
      obtain ⟨rfl, rfl⟩ := hh
      simpa using h.2
    rcases hj with ((hj | hj) | hj) | ((hj | hj) | hj)
    · exact Pq.isLd_lt h.1.1 (by simp [hj])
    · exact Pq.isLd_lt h.1.2 (by simp [hj])
    · exact hm hj
    · exact Pq.isLd_lt h.1.1 (by simp [hj])
    · exact Pq.isLd_lt h.1.2 (by simp [hj])
    · exact hm hj
def okAllQ (ops : Array Oper) (r : Pq) : Bool :=
  Nat.ble r.len ops.size && (r.all fun p => match p with | .w n => decide (n < ops.size) | .l n => decide (n < ops.size) | _ => true) && okQ ops (fun j => r.isLd j) (fun j => r.isWd j) r (Array.replicate ops.size false)
theorem SemC.drawU {ops : Array Oper} {env : Env} {lb : LBs} {Φ : Facts} {Q : QT} (id : Nat) (mk : List Nat) (r : Pq) (hm : P.follows .mixedOrders = true) (hok : okAllQ ops r = true)
    (h : arrK ops fun l => wpU P nt l mk (keysOf lb mk) r env lb Φ fun env lb Φ => Q .normal env ds lb Φ) : SemC P nt ro (.region id ops true) env ds lb Φ Q := by
  simp only [okAllQ, Bool.and_eq_true] at hok
  refine ⟨fun ω a w hra hr => ?_⟩
  have h1 := wpU_ok (P := P) (ro := ro) (ω := ω) (ld := fun j => r.isLd j) (wd := fun j => r.isWd j) (lo := ops.toList) (K' := QQ P nt ω Q .normal) (fun j hj => by simpa using Pq.isLd_lt hok.1.2 hj) r (fun env lb Φ Mu a w k1 k2 k3 => ⟨env, ds, lb, Φ, Mu, k1, k2, k3⟩) (Array.replicate ops.size false) env lb Φ a { w with drawn := w.drawn + 1 } { w with drawn := w.drawn + 1 } ops.size ω.Mu
    (Nat.le_of_ble_eq_true hok.1.1) (by simpa using hok.2) (by simpa using Closed.start .any ops ops.size) hra hr.drawn hr.drawn (Kept.refl _ _) h
  exact wpIn_region_any hm (any_sound (K := QQ P nt ω Q .normal) (fun _ _ h => h) _ _ _ _ _ _ (by simpa using h1))
end
/-! ### contracts said otherwise -/
/-- facts that hold stay -/
theorem Ct.keep {P : Program} {f : FuncId} {args : List SV} {Φ0 : Facts} {v : SV} (h : Ct P f [] args Φ0 (Rv v)) {F : Fact} (hF : ∀ A w, Hold Φ0 A w → F.F A w) : Ct P f [] args Φ0 (Rs (fun _ : Unit => v) (fun _ => []) (fun _ => [F]) fun _ => True) := ⟨fun M A w hr => by
  refine Calls.mono (h.h _ _ w hr.sub) fun e w' ⟨v', he, hk, r, bs', Ψ, hv, hR, hr'⟩ => ⟨v', he, hk.weaken (fun _ _ h => h.elim), v, [], [F], by rw [hv, hR], ⟨(), rfl, rfl, rfl, trivial⟩, ?_⟩
  have h1 := hr.call hk
  exact ⟨h1.st, Hold.cons (hF _ _ h1.hold) Hold.nil, h1.mu, h1.muM, h1.amb⟩⟩
/-- results said otherwise -/
theorem Ct.map {P : Program} {f : FuncId} {bs : LBs} {args : List SV} {Φ0 : Facts} {β γ : Type} {res : β → SV} {bo : β → LBs} {fs : β → Facts} {pr : β → Prop} {res' : γ → SV} {bo' : γ → LBs} {fs' : γ → Facts} {pr' : γ → Prop} (h : Ct P f bs args Φ0 (Rs res bo fs pr)) (g : β → γ) (h1 : ∀ x, res' (g x) = res x) (h2 : ∀ x, bo' (g x) = bo x) (h3 : ∀ x, fs' (g x) = fs x) (h4 : ∀ x, pr x → pr' (g x)) : Ct P f bs args Φ0 (Rs res' bo' fs' pr') :=
  ⟨fun M A w hr => Calls.mono (h.h M A w hr) fun _ _ ⟨v', he, hk, r, bs', Ψ, hv, ⟨x, e1, e2, e3, e4⟩, hr'⟩ => ⟨v', he, hk, r, bs', Ψ, hv, ⟨g x, by rw [h1, e1], by rw [h2, e2], by rw [h3, e3], h4 x e4⟩, hr'⟩⟩
theorem Ct.more {P : Program} {f : FuncId} {args : List SV} {Φ0 Φ1 : Facts} {R : SV → LBs → Facts → Prop} (h : Ct P f [] args Φ0 R) (hs : ∀ F ∈ Φ0, F ∈ Φ1) : Ct P f [] args Φ1 R := ⟨fun M A w hr => h.h M A w ⟨hr.st, fun F hF => hr.hold F (hs F hF), hr.mu, hr.muM, hr.amb⟩⟩
/-! ### blocks chosen anew; ranges and loops that name them by what stands -/
theorem Imp.sel {P : Program} {lb lb' : LBs} {Φ : Facts} (is : List Nat) (hp : picks lb is lb') (hn : nodupB is = true) (hns : noSeq lb' = true) : Imp P lb Φ lb' Φ := fun ω w hr => by
  have key : ∀ (k : Nat) (p : Ent), (sem lb')[k]? = some p → ∃ i, is[k]? = some i ∧ (sem lb)[i]? = some p := by
    intro k p h
    obtain ⟨e, he, rfl⟩ : ∃ e, lb'[k]? = some e ∧ ent e = p := by simpa [sem] using h
    obtain ⟨i, h1, h2⟩ := picks_get hp he
    exact ⟨i, h1, by simp [sem, h2]⟩
  have hoff : ∀ b, Off (sem lb) b → Off (sem lb') b := fun b ho k p hk hrp => by
    obtain ⟨i, _, h2⟩ := key k p hk
    exact ho i p h2 hrp
  refine ⟨⟨hr.st.kept, ?_, ?_⟩, hr.hold.kp fun b _ hb => ⟨⟨hoff b hb.1, hb.2⟩, rfl⟩, fun b hb => ⟨(hr.mu b hb).1, hoff b (hr.mu b hb).2⟩, hr.muM, fun b lp xs s hi => (noSeq_ok hns hi).elim⟩
  · intro j k p p' hj hk hrp hrp' e
    obtain ⟨i, h1, h2⟩ := key j p hj
    obtain ⟨i', h1', h2'⟩ := key k p' hk
    have := hr.st.inj _ _ _ _ h2 h2' hrp hrp' e
    subst this
    exact nodup_get (nodupB_ok hn) h1 h1'
  · intro k p hk
    obtain ⟨i, h1, h2⟩ := key k p hk
    exact hr.st.own _ _ h2
theorem Imp.selF {P : Program} {lb lb' : LBs} {Φ Φ' : Facts} (is : List Nat) (hp : picks lb is lb') (hn : nodupB is = true) (hns : noSeq lb' = true) (h2 : SubK Φ' Φ) : Imp P lb Φ lb' Φ' := Imp.trans (Imp.sel is hp hn hns) (Imp.facts h2.ok)
theorem SemC.rangeQ {P : Program} {nt : Nat} {env : Env} {ds : List Deferred} {lb : LBs} {Φ : Facts} {σ : Type} {bs : LBs} {Q : QT} {gO : Operand} {ps : Array Tmp} {assign body : Code} {gf : FuncId} {caps : List SV} {Φ0 : Facts} {R : LBs → Facts → Prop} (B : LBs → σ → LBs) (F : Facts → σ → Facts) (inv : Nat → σ → Prop) (stop : Code → σ → Prop) (X : List PubI) (m : Nat)
    (hns : noSeq bs = true) (hIt : It P gf bs caps Φ0 X R) (x0 : σ) (h0 : inv 0 x0) (hm : ∀ x, (B lb x).length = m) (hi : ∀ D r, Imp P (lb ++ twoB D r) Φ ((B lb x0 ++ twoB D r) ++ bs) (F Φ x0)) (hΦ : SubK Φ0 (F Φ x0)) (hg : evS env gO fun v => v.den = (SV.fn gf [] caps).den)
    (hround : ∀ (D : Nat) (rc : LoopState → Option Code → Loop) n x (I : PubI) (y : I.β), inv n x → X[n]? = some I → I.pr y → Nx1 (appK (B lb x) (twoB D (rc .ready none)) fun lb' => arrK ps fun ps => paramsK nt ps (I.enc y) env fun env => roundQ P nt (D + 1) (m + 1) assign body env (finS P D (B lb) (F Φ) inv stop rc) n (rc .ready none) (rc .busy none) (fun c => rc .done (some c)) lb' (I.fs y ++ F Φ x)))
    (hdone : ∀ D x o, inv X.length x → Nx (appK (B lb x) [(D, .obj (.deferred (some []))), (D + 1, .obj o)] fun lb' => Q .normal env (markD D :: ds) lb' (F Φ x)))
    (hstop : ∀ D c x o, stop c x → Nx2 (appK (B lb x) [(D, .obj (.deferred (some []))), (D + 1, .obj o)] fun lb' => wpC P nt none c env (markD D :: ds) lb' (F Φ x) Q)) (hfn : isFn P gf := by exact fun _ _ => rfl) (hpl : ∀ D x r, plainK (B lb x ++ twoB D r) := by first | exact fun _ _ _ => trivial | exact fun _ _ _ => fixd_plain _) :
    SemC P nt none (.rangeFunc gO ps assign body) env ds lb Φ Q :=
  SemC.rangeP (B lb) (F Φ) inv stop X m hns hIt x0 h0 hm hi hΦ hg hround hdone hstop hfn hpl
theorem SemC.loopNV {P : Program} {nt : Nat} {ro : Option Nat} {c : Code} {Q : QT} {env : Env} {ds : List Deferred} {lb : LBs} {Φ : Facts} {ι : Type} (U : ι → Env) (B : LBs → ι → LBs) (F : Facts → ι → Facts) (I : ι → Prop) (μ : ι → Nat) (x0 : ι) (h : keepK (asg c) env fun env0 => LoopQ P nt ro c Q ds env lb Φ U (B lb) (F Φ) I μ x0 env0) : SemC P nt ro (.loop c) env ds lb Φ Q := SemC.loopU U _ _ I μ x0 h
end Go.Proofs.YtikjigkkhdkibaaGreatDoor.W
