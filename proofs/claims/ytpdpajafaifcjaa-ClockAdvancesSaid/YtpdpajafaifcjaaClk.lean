/- The walks of the functions that ClockAdvances reaches: at any clock it answers true. -/
import Derived.Test.YtpdpajafaifcjaaRows
import Derived.Test.YtpdpajafaifcjaaEngE
namespace Go.Proofs.Ytpdpajafaifcjaa
open Go.Proofs.Ytpdpajafaifcjaa.Eng
theorem since_no {w : World} (t : Int) (s : Int) (h : t ≤ s) : Ok Try.prog No 7 #[.int .u64 t, .int .u64 s] w fun v _ => v = .tuple #[.int .u64 0, .bool false] := by
  refine e_enter Try.func7 rfl Try.ntmps7 (lv := [.int .u64 t, .int .u64 s, u_, u_, u_, u_, u_, u_, u_, u_, u_, u_]) rfl ?_
  have hs := St.start (M := No) w
  refine c_seq fun K1 k1 => ?_
  refine c_region fun K2 k2 => ?_
  refine r_v rfl rfl (x_assign (v := .int .u64 0) rfl) ?_; dsimp only [setD, List.set]
  refine r_v rfl rfl (x_assign (v := .bool false) rfl) ?_; dsimp only [setD, List.set]
  refine o_nil (k2 _ _ ?_)
  clear k2 K2
  refine k1 _ _ ?_
  clear k1 K1
  refine c_seq fun K3 k3 => ?_
  refine c_seq fun K4 k4 => ?_
  refine c_region fun K5 k5 => ?_
  refine r_v rfl rfl (x_move (v := .int .u64 s) rfl) ?_; dsimp only [setD, List.set]
  refine r_v rfl rfl (x_move (v := .int .u64 t) rfl) ?_; dsimp only [setD, List.set]
  refine r_v rfl rfl (x_cmp (b := decide (s ≥ t)) rfl rfl rfl) ?_; dsimp only [setD, List.set]
  refine o_nil (k5 _ _ ?_)
  clear k5 K5
  refine k4 _ _ ?_
  clear k4 K4
  rcases Bool.eq_false_or_eq_true (decide (s ≥ t)) with hb6 | hb6
  · first
    | (have hc6 : s ≥ t := of_decide_eq_true hb6; exfalso; omega)
    | skip
      have hc6 : s ≥ t := of_decide_eq_true hb6
      rw [hb6]
      refine c_true rfl ?_
      refine c_seq fun K7 k7 => ?_
      refine c_region fun K8 k8 => ?_
      refine r_v rfl rfl (x_assign (v := .int .u64 0) rfl) ?_; dsimp only [setD, List.set]
      refine r_v rfl rfl (x_assign (v := .bool false) rfl) ?_; dsimp only [setD, List.set]
      refine o_nil (k8 _ _ ?_)
      clear k8 K8
      refine k7 _ _ ?_
      clear k7 K7
      refine c_ret ?_
      change Ex Try.prog Try.f7 _ .ret _ _
      refine ex_ret0 (results_by (rs := [.tmp 4, .tmp 5]) (vs := [.int .u64 0, .bool false]) rfl (rs_tmp rfl (rs_tmp rfl (rs_nil)))) ⟨hs.kept, ?_⟩
      rfl
  · first
    | (have hc6 : ¬ (s ≥ t) := of_decide_eq_false hb6; exfalso; omega)
    | skip
      have hc6 : ¬ (s ≥ t) := of_decide_eq_false hb6
      rw [hb6]
      refine c_false rfl ?_
      refine c_skip ?_
      refine k3 _ _ ?_
      clear k3 K3
      refine c_seq fun K9 k9 => ?_
      refine c_region fun K10 k10 => ?_
      refine r_v rfl rfl (x_move (v := .int .u64 t) rfl) ?_; dsimp only [setD, List.set]
      refine r_v rfl rfl (x_move (v := .int .u64 s) rfl) ?_; dsimp only [setD, List.set]
      refine r_v rfl rfl (x_ari (v := t - s) rfl rfl (a_sub_u64 (by omega))) ?_; dsimp only [setD, List.set]
      refine r_v rfl rfl (x_assign (v := .int .u64 (t - s)) rfl) ?_; dsimp only [setD, List.set]
      refine r_v rfl rfl (x_assign (v := .bool true) rfl) ?_; dsimp only [setD, List.set]
      refine o_nil (k10 _ _ ?_)
      clear k10 K10
      refine k9 _ _ ?_
      clear k9 K9
      refine c_ret ?_
      change Ex Try.prog Try.f7 _ .ret _ _
      refine ex_ret0 (results_by (rs := [.tmp 4, .tmp 5]) (vs := [.int .u64 (t - s), .bool true]) rfl (rs_tmp rfl (rs_tmp rfl (rs_nil)))) ⟨hs.kept, ?_⟩
      rfl

theorem since_yes {w : World} (t : Int) (s : Int) (h : s < t) (h0 : 0 ≤ s) (h1 : t ≤ 18446744073709551615) : Ok Try.prog No 7 #[.int .u64 t, .int .u64 s] w fun v _ => v = .tuple #[.int .u64 (t - s), .bool true] := by
  refine e_enter Try.func7 rfl Try.ntmps7 (lv := [.int .u64 t, .int .u64 s, u_, u_, u_, u_, u_, u_, u_, u_, u_, u_]) rfl ?_
  have hs := St.start (M := No) w
  refine c_seq fun K1 k1 => ?_
  refine c_region fun K2 k2 => ?_
  refine r_v rfl rfl (x_assign (v := .int .u64 0) rfl) ?_; dsimp only [setD, List.set]
  refine r_v rfl rfl (x_assign (v := .bool false) rfl) ?_; dsimp only [setD, List.set]
  refine o_nil (k2 _ _ ?_)
  clear k2 K2
  refine k1 _ _ ?_
  clear k1 K1
  refine c_seq fun K3 k3 => ?_
  refine c_seq fun K4 k4 => ?_
  refine c_region fun K5 k5 => ?_
  refine r_v rfl rfl (x_move (v := .int .u64 s) rfl) ?_; dsimp only [setD, List.set]
  refine r_v rfl rfl (x_move (v := .int .u64 t) rfl) ?_; dsimp only [setD, List.set]
  refine r_v rfl rfl (x_cmp (b := decide (s ≥ t)) rfl rfl rfl) ?_; dsimp only [setD, List.set]
  refine o_nil (k5 _ _ ?_)
  clear k5 K5
  refine k4 _ _ ?_
  clear k4 K4
  rcases Bool.eq_false_or_eq_true (decide (s ≥ t)) with hb6 | hb6
  · first
    | (have hc6 : s ≥ t := of_decide_eq_true hb6; exfalso; omega)
    | skip
      have hc6 : s ≥ t := of_decide_eq_true hb6
      rw [hb6]
      refine c_true rfl ?_
      refine c_seq fun K7 k7 => ?_
      refine c_region fun K8 k8 => ?_
      refine r_v rfl rfl (x_assign (v := .int .u64 0) rfl) ?_; dsimp only [setD, List.set]
      refine r_v rfl rfl (x_assign (v := .bool false) rfl) ?_; dsimp only [setD, List.set]
      refine o_nil (k8 _ _ ?_)
      clear k8 K8
      refine k7 _ _ ?_
      clear k7 K7
      refine c_ret ?_
      change Ex Try.prog Try.f7 _ .ret _ _
      refine ex_ret0 (results_by (rs := [.tmp 4, .tmp 5]) (vs := [.int .u64 0, .bool false]) rfl (rs_tmp rfl (rs_tmp rfl (rs_nil)))) ⟨hs.kept, ?_⟩
      rfl
  · first
    | (have hc6 : ¬ (s ≥ t) := of_decide_eq_false hb6; exfalso; omega)
    | skip
      have hc6 : ¬ (s ≥ t) := of_decide_eq_false hb6
      rw [hb6]
      refine c_false rfl ?_
      refine c_skip ?_
      refine k3 _ _ ?_
      clear k3 K3
      refine c_seq fun K9 k9 => ?_
      refine c_region fun K10 k10 => ?_
      refine r_v rfl rfl (x_move (v := .int .u64 t) rfl) ?_; dsimp only [setD, List.set]
      refine r_v rfl rfl (x_move (v := .int .u64 s) rfl) ?_; dsimp only [setD, List.set]
      refine r_v rfl rfl (x_ari (v := t - s) rfl rfl (a_sub_u64 (by omega))) ?_; dsimp only [setD, List.set]
      refine r_v rfl rfl (x_assign (v := .int .u64 (t - s)) rfl) ?_; dsimp only [setD, List.set]
      refine r_v rfl rfl (x_assign (v := .bool true) rfl) ?_; dsimp only [setD, List.set]
      refine o_nil (k10 _ _ ?_)
      clear k10 K10
      refine k9 _ _ ?_
      clear k9 K9
      refine c_ret ?_
      change Ex Try.prog Try.f7 _ .ret _ _
      refine ex_ret0 (results_by (rs := [.tmp 4, .tmp 5]) (vs := [.int .u64 (t - s), .bool true]) rfl (rs_tmp rfl (rs_tmp rfl (rs_nil)))) ⟨hs.kept, ?_⟩
      rfl

theorem told_ok {w : World} (n : Int) : Ok Try.prog No 8 #[.iface 49 (.agg #[.int .i64 n])] w fun v _ => v = .int .i64 n := by
  refine e_enter Try.func8 rfl Try.ntmps8 (lv := [.iface 49 (.agg #[.int .i64 n]), u_, u_, u_, u_, u_, u_, u_, u_, u_, u_, u_, u_]) rfl ?_
  have hs := St.start (M := No) w
  refine c_seq fun K1 k1 => ?_
  refine c_region fun K2 k2 => ?_
  refine r_v rfl rfl (x_assign (v := .int .i64 0) rfl) ?_; dsimp only [setD, List.set]
  refine o_nil (k2 _ _ ?_)
  clear k2 K2
  refine k1 _ _ ?_
  clear k1 K1
  refine c_seq fun K3 k3 => ?_
  refine c_seq fun K4 k4 => ?_
  refine c_region fun K5 k5 => ?_
  refine r_v rfl rfl (x_move (v := .iface 49 (.agg #[.int .i64 n])) rfl) ?_; dsimp only [setD, List.set]
  refine r_v rfl rfl (x_assert (v := .tuple #[.agg #[.int .i64 n], .bool true]) (xv := .iface 49 (.agg #[.int .i64 n])) rfl (by simp [Instr.typeAssert])) ?_; dsimp only [setD, List.set]
  refine r_v rfl rfl (x_move (v := .tuple #[.agg #[.int .i64 n], .bool true]) rfl) ?_; dsimp only [setD, List.set]
  refine r_v rfl rfl (x_extract (v := .agg #[.int .i64 n]) rfl rfl) ?_; dsimp only [setD, List.set]
  refine r_v rfl rfl (x_extract (v := .bool true) rfl rfl) ?_; dsimp only [setD, List.set]
  refine r_alloc hs rfl Try.zeroValue49 (fun b6 w6 hs6 ht6 => ?_)
  replace hs := hs6; clear hs6 ht6; dsimp only [setD, List.set]
  refine r_store (v := .agg #[.int .i64 n]) hs 0 rfl rfl rfl rfl Try.sizeOf49 (Nat.le_of_ble_eq_true rfl) rfl (fun w7 hs7 ht7 => ?_)
  replace hs := hs7; clear hs7 ht7; dsimp only [setD, List.set]
  refine r_v rfl rfl (x_assign (v := .bool true) rfl) ?_; dsimp only [setD, List.set]
  refine o_nil (k5 _ _ ?_)
  clear k5 K5
  refine k4 _ _ ?_
  clear k4 K4
  refine c_seq fun K8 k8 => ?_
  refine c_region fun K9 k9 => ?_
  refine r_v rfl rfl (x_move (v := .bool true) rfl) ?_; dsimp only [setD, List.set]
  refine o_nil (k9 _ _ ?_)
  clear k9 K9
  refine k8 _ _ ?_
  clear k8 K8
  refine c_true rfl ?_
  refine c_seq fun K10 k10 => ?_
  refine c_region fun K11 k11 => ?_
  refine r_v rfl rfl (x_field Try.runUnderlying49 rfl Try.sizeOf24 rfl) ?_; dsimp only [setD, List.set]
  refine r_v rfl rfl (x_load (v := .int .i64 n) hs 0 rfl rfl Try.isAgg24 rfl) ?_; dsimp only [setD, List.set]
  refine r_v rfl rfl (x_assign (v := .int .i64 n) rfl) ?_; dsimp only [setD, List.set]
  refine o_nil (k11 _ _ ?_)
  clear k11 K11
  refine k10 _ _ ?_
  clear k10 K10
  refine c_ret ?_
  change Ex Try.prog Try.f8 _ .ret _ _
  refine ex_ret0 (results_by (rs := [.tmp 2]) (vs := [.int .i64 n]) rfl (rs_tmp rfl (rs_nil))) ⟨hs.kept, ?_⟩
  rfl

theorem advance_ok {w : World} (a : Int) (b : Int) (h : a ≤ b) : Ok Try.prog No 5 #[.int .u64 a, .int .u64 b] w fun v _ => v = .tuple #[.int .u64 b, .int .i64 0] := by
  refine e_enter Try.func5 rfl Try.ntmps5 (lv := [.int .u64 a, .int .u64 b, u_, u_, u_, u_, u_, u_, u_, u_, u_, u_, u_, u_, u_, u_, u_, u_, u_]) rfl ?_
  have hs := St.start (M := No) w
  refine c_seq fun K1 k1 => ?_
  refine c_region fun K2 k2 => ?_
  refine r_v rfl rfl (x_assign (v := .int .u64 0) rfl) ?_; dsimp only [setD, List.set]
  refine r_v rfl rfl (x_assign (v := .int .i64 0) rfl) ?_; dsimp only [setD, List.set]
  refine o_nil (k2 _ _ ?_)
  clear k2 K2
  refine k1 _ _ ?_
  clear k1 K1
  refine c_seq fun K3 k3 => ?_
  refine c_seq fun K4 k4 => ?_
  refine c_region fun K5 k5 => ?_
  refine r_v rfl rfl (x_move (v := .int .u64 a) rfl) ?_; dsimp only [setD, List.set]
  refine r_v rfl rfl (x_move (v := .int .u64 b) rfl) ?_; dsimp only [setD, List.set]
  refine r_call rfl rfl Try.call7 rfl (since_no (t := a) (s := b) (h := by omega)) (fun v6 w6 hk6 hp6 => ?_)
  have hv6 := hp6; clear hp6
  replace hs := hs.call hk6; clear hk6
  subst hv6; dsimp only [setD, List.set]
  refine r_v rfl rfl (x_move (v := .tuple #[.int .u64 0, .bool false]) rfl) ?_; dsimp only [setD, List.set]
  refine r_v rfl rfl (x_extract (v := .int .u64 0) rfl rfl) ?_; dsimp only [setD, List.set]
  refine r_v rfl rfl (x_extract (v := .bool false) rfl rfl) ?_; dsimp only [setD, List.set]
  refine r_v rfl rfl (x_assign (v := .int .u64 0) rfl) ?_; dsimp only [setD, List.set]
  refine r_v rfl rfl (x_assign (v := .bool false) rfl) ?_; dsimp only [setD, List.set]
  refine o_nil (k5 _ _ ?_)
  clear k5 K5
  refine k4 _ _ ?_
  clear k4 K4
  refine c_seq fun K7 k7 => ?_
  refine c_region fun K8 k8 => ?_
  refine r_v rfl rfl (x_move (v := .bool false) rfl) ?_; dsimp only [setD, List.set]
  refine o_nil (k8 _ _ ?_)
  clear k8 K8
  refine k7 _ _ ?_
  clear k7 K7
  refine c_false rfl ?_
  refine c_skip ?_
  refine k3 _ _ ?_
  clear k3 K3
  refine c_seq fun K9 k9 => ?_
  refine c_region fun K10 k10 => ?_
  refine r_v rfl rfl (x_move (v := .int .u64 b) rfl) ?_; dsimp only [setD, List.set]
  refine r_v rfl rfl (x_assign (v := .int .u64 b) rfl) ?_; dsimp only [setD, List.set]
  refine r_v rfl rfl (x_assign (v := .int .i64 0) rfl) ?_; dsimp only [setD, List.set]
  refine o_nil (k10 _ _ ?_)
  clear k10 K10
  refine k9 _ _ ?_
  clear k9 K9
  refine c_ret ?_
  change Ex Try.prog Try.f5 _ .ret _ _
  refine ex_ret0 (results_by (rs := [.tmp 4, .tmp 5]) (vs := [.int .u64 b, .int .i64 0]) rfl (rs_tmp rfl (rs_tmp rfl (rs_nil)))) ⟨hs.kept, ?_⟩
  rfl

theorem advance_no {w : World} (a : Int) (b : Int) (h : b < a) (h0 : 0 ≤ b) (h1 : a ≤ 18446744073709551615) : Ok Try.prog No 5 #[.int .u64 a, .int .u64 b] w fun v _ => v = .tuple #[.int .u64 0, .int .i64 140] := by
  refine e_enter Try.func5 rfl Try.ntmps5 (lv := [.int .u64 a, .int .u64 b, u_, u_, u_, u_, u_, u_, u_, u_, u_, u_, u_, u_, u_, u_, u_, u_, u_]) rfl ?_
  have hs := St.start (M := No) w
  refine c_seq fun K1 k1 => ?_
  refine c_region fun K2 k2 => ?_
  refine r_v rfl rfl (x_assign (v := .int .u64 0) rfl) ?_; dsimp only [setD, List.set]
  refine r_v rfl rfl (x_assign (v := .int .i64 0) rfl) ?_; dsimp only [setD, List.set]
  refine o_nil (k2 _ _ ?_)
  clear k2 K2
  refine k1 _ _ ?_
  clear k1 K1
  refine c_seq fun K3 k3 => ?_
  refine c_seq fun K4 k4 => ?_
  refine c_region fun K5 k5 => ?_
  refine r_v rfl rfl (x_move (v := .int .u64 a) rfl) ?_; dsimp only [setD, List.set]
  refine r_v rfl rfl (x_move (v := .int .u64 b) rfl) ?_; dsimp only [setD, List.set]
  refine r_call rfl rfl Try.call7 rfl (since_yes (t := a) (s := b) (h := by omega) (h0 := by omega) (h1 := by omega)) (fun v6 w6 hk6 hp6 => ?_)
  have hv6 := hp6; clear hp6
  replace hs := hs.call hk6; clear hk6
  subst hv6; dsimp only [setD, List.set]
  refine r_v rfl rfl (x_move (v := .tuple #[.int .u64 (a - b), .bool true]) rfl) ?_; dsimp only [setD, List.set]
  refine r_v rfl rfl (x_extract (v := .int .u64 (a - b)) rfl rfl) ?_; dsimp only [setD, List.set]
  refine r_v rfl rfl (x_extract (v := .bool true) rfl rfl) ?_; dsimp only [setD, List.set]
  refine r_v rfl rfl (x_assign (v := .int .u64 (a - b)) rfl) ?_; dsimp only [setD, List.set]
  refine r_v rfl rfl (x_assign (v := .bool true) rfl) ?_; dsimp only [setD, List.set]
  refine o_nil (k5 _ _ ?_)
  clear k5 K5
  refine k4 _ _ ?_
  clear k4 K4
  refine c_seq fun K7 k7 => ?_
  refine c_region fun K8 k8 => ?_
  refine r_v rfl rfl (x_move (v := .bool true) rfl) ?_; dsimp only [setD, List.set]
  refine o_nil (k8 _ _ ?_)
  clear k8 K8
  refine k7 _ _ ?_
  clear k7 K7
  refine c_true rfl ?_
  refine c_seq fun K9 k9 => ?_
  refine c_region fun K10 k10 => ?_
  refine r_v rfl rfl (x_build (v := .agg #[.int .i64 140]) (ps := [(0, .int .i64 140)]) rfl (fun _ => by simp [Instr.build, Instr.fill, Value.cells, str])) ?_; dsimp only [setD, List.set]
  refine r_v rfl rfl (x_iface (v := .agg #[.int .i64 140]) rfl Try.runUnderlying49 rfl) ?_; dsimp only [setD, List.set]
  refine r_call rfl rfl Try.call8 rfl (told_ok (n := 140)) (fun v11 w11 hk11 hp11 => ?_)
  have hv11 := hp11; clear hp11
  replace hs := hs.call hk11; clear hk11
  subst hv11; dsimp only [setD, List.set]
  refine r_v rfl rfl (x_assign (v := .int .u64 0) rfl) ?_; dsimp only [setD, List.set]
  refine r_v rfl rfl (x_assign (v := .int .i64 140) rfl) ?_; dsimp only [setD, List.set]
  refine o_nil (k10 _ _ ?_)
  clear k10 K10
  refine k9 _ _ ?_
  clear k9 K9
  refine c_ret ?_
  change Ex Try.prog Try.f5 _ .ret _ _
  refine ex_ret0 (results_by (rs := [.tmp 4, .tmp 5]) (vs := [.int .u64 0, .int .i64 140]) rfl (rs_tmp rfl (rs_tmp rfl (rs_nil)))) ⟨hs.kept, ?_⟩
  rfl

def staleB (seen now life : Int) : Bool := decide (seen < now ∧ life < now - seen)
theorem staleB_no {seen now life : Int} (h : now ≤ seen) : staleB seen now life = false := by simp [staleB]; omega
theorem staleB_yes {seen now life : Int} (h : seen < now) : staleB seen now life = decide (life < now - seen) := by simp [staleB, h]

theorem isStale_no {w : World} (now : Int) (life : Int) (seen : Int) (h : now ≤ seen) : Ok Try.prog No 9 #[.agg #[.int .u64 now, .int .u64 life], .agg #[.slice none 0 0, .int .i64 0, .int .i64 0, .slice none 0 0, .int .i64 0, str [], .int .i64 0, .int .i64 0, .slice none 0 0, .int .i64 0, .slice none 0 0, .int .u64 seen]] w fun v _ => v = .bool (staleB seen now life) := by
  refine e_enter Try.func9 rfl Try.ntmps9 (lv := [.agg #[.int .u64 now, .int .u64 life], .agg #[.slice none 0 0, .int .i64 0, .int .i64 0, .slice none 0 0, .int .i64 0, str [], .int .i64 0, .int .i64 0, .slice none 0 0, .int .i64 0, .slice none 0 0, .int .u64 seen], u_, u_, u_, u_, u_, u_, u_, u_, u_, u_, u_, u_, u_, u_, u_, u_, u_, u_, u_, u_]) rfl ?_
  have hs := St.start (M := No) w
  refine c_seq fun K1 k1 => ?_
  refine c_region fun K2 k2 => ?_
  refine r_box (v := .agg #[.int .u64 now, .int .u64 life]) hs rfl rfl (fun b3 w3 hs3 ht3 => ?_)
  replace hs := hs3; clear hs3 ht3; dsimp only [setD, List.set]
  refine r_box (v := .agg #[.slice none 0 0, .int .i64 0, .int .i64 0, .slice none 0 0, .int .i64 0, str [], .int .i64 0, .int .i64 0, .slice none 0 0, .int .i64 0, .slice none 0 0, .int .u64 seen]) hs rfl rfl (fun b4 w4 hs4 ht4 => ?_)
  replace hs := hs4; clear hs4 ht4; dsimp only [setD, List.set]
  refine r_v rfl rfl (x_assign (v := .bool false) rfl) ?_; dsimp only [setD, List.set]
  refine o_nil (k2 _ _ ?_)
  clear k2 K2
  refine k1 _ _ ?_
  clear k1 K1
  refine c_seq fun K5 k5 => ?_
  refine c_region fun K6 k6 => ?_
  refine r_v rfl rfl (x_field Try.runUnderlying51 rfl Try.sizeOf45 rfl) ?_; dsimp only [setD, List.set]
  refine r_v rfl rfl (x_load (v := .int .u64 now) hs 0 rfl rfl Try.isAgg45 rfl) ?_; dsimp only [setD, List.set]
  refine r_v rfl rfl (x_field Try.runUnderlying41 rfl Try.sizeOf22 rfl) ?_; dsimp only [setD, List.set]
  refine r_v rfl rfl (x_load (v := .int .u64 seen) hs 1 rfl rfl Try.isAgg22 rfl) ?_; dsimp only [setD, List.set]
  refine r_call rfl rfl Try.call7 rfl (since_no (t := now) (s := seen) (h := by omega)) (fun v7 w7 hk7 hp7 => ?_)
  have hv7 := hp7; clear hp7
  replace hs := hs.call hk7; clear hk7
  subst hv7; dsimp only [setD, List.set]
  refine r_v rfl rfl (x_move (v := .tuple #[.int .u64 0, .bool false]) rfl) ?_; dsimp only [setD, List.set]
  refine r_v rfl rfl (x_extract (v := .int .u64 0) rfl rfl) ?_; dsimp only [setD, List.set]
  refine r_v rfl rfl (x_extract (v := .bool false) rfl rfl) ?_; dsimp only [setD, List.set]
  refine r_v rfl rfl (x_assign (v := .int .u64 0) rfl) ?_; dsimp only [setD, List.set]
  refine r_v rfl rfl (x_assign (v := .bool false) rfl) ?_; dsimp only [setD, List.set]
  refine o_nil (k6 _ _ ?_)
  clear k6 K6
  refine k5 _ _ ?_
  clear k5 K5
  refine c_seq fun K8 k8 => ?_
  refine c_region fun K9 k9 => ?_
  refine r_v rfl rfl (x_move (v := .bool false) rfl) ?_; dsimp only [setD, List.set]
  refine r_v rfl rfl (x_move (v := .bool false) rfl) ?_; dsimp only [setD, List.set]
  refine r_skip rfl ?_; dsimp only [setD, List.set]
  refine r_skip rfl ?_; dsimp only [setD, List.set]
  refine r_skip rfl ?_; dsimp only [setD, List.set]
  refine r_skip rfl ?_; dsimp only [setD, List.set]
  refine r_v rfl rfl (x_pickF (v := .bool false) rfl rfl) ?_; dsimp only [setD, List.set]
  refine r_v rfl rfl (x_assign (v := .bool false) rfl) ?_; dsimp only [setD, List.set]
  refine o_nil (k9 _ _ ?_)
  clear k9 K9
  refine k8 _ _ ?_
  clear k8 K8
  refine c_ret ?_
  change Ex Try.prog Try.f9 _ .ret _ _
  refine ex_ret0 (results_by (rs := [.tmp 4]) (vs := [.bool false]) rfl (rs_tmp rfl (rs_nil))) ⟨hs.kept, ?_⟩
  rw [staleB_no h]; rfl

theorem isStale_yes {w : World} (now : Int) (life : Int) (seen : Int) (h : seen < now) (h0 : 0 ≤ seen) (h1 : now ≤ 18446744073709551615) : Ok Try.prog No 9 #[.agg #[.int .u64 now, .int .u64 life], .agg #[.slice none 0 0, .int .i64 0, .int .i64 0, .slice none 0 0, .int .i64 0, str [], .int .i64 0, .int .i64 0, .slice none 0 0, .int .i64 0, .slice none 0 0, .int .u64 seen]] w fun v _ => v = .bool (staleB seen now life) := by
  refine e_enter Try.func9 rfl Try.ntmps9 (lv := [.agg #[.int .u64 now, .int .u64 life], .agg #[.slice none 0 0, .int .i64 0, .int .i64 0, .slice none 0 0, .int .i64 0, str [], .int .i64 0, .int .i64 0, .slice none 0 0, .int .i64 0, .slice none 0 0, .int .u64 seen], u_, u_, u_, u_, u_, u_, u_, u_, u_, u_, u_, u_, u_, u_, u_, u_, u_, u_, u_, u_]) rfl ?_
  have hs := St.start (M := No) w
  refine c_seq fun K1 k1 => ?_
  refine c_region fun K2 k2 => ?_
  refine r_box (v := .agg #[.int .u64 now, .int .u64 life]) hs rfl rfl (fun b3 w3 hs3 ht3 => ?_)
  replace hs := hs3; clear hs3 ht3; dsimp only [setD, List.set]
  refine r_box (v := .agg #[.slice none 0 0, .int .i64 0, .int .i64 0, .slice none 0 0, .int .i64 0, str [], .int .i64 0, .int .i64 0, .slice none 0 0, .int .i64 0, .slice none 0 0, .int .u64 seen]) hs rfl rfl (fun b4 w4 hs4 ht4 => ?_)
  replace hs := hs4; clear hs4 ht4; dsimp only [setD, List.set]
  refine r_v rfl rfl (x_assign (v := .bool false) rfl) ?_; dsimp only [setD, List.set]
  refine o_nil (k2 _ _ ?_)
  clear k2 K2
  refine k1 _ _ ?_
  clear k1 K1
  refine c_seq fun K5 k5 => ?_
  refine c_region fun K6 k6 => ?_
  refine r_v rfl rfl (x_field Try.runUnderlying51 rfl Try.sizeOf45 rfl) ?_; dsimp only [setD, List.set]
  refine r_v rfl rfl (x_load (v := .int .u64 now) hs 0 rfl rfl Try.isAgg45 rfl) ?_; dsimp only [setD, List.set]
  refine r_v rfl rfl (x_field Try.runUnderlying41 rfl Try.sizeOf22 rfl) ?_; dsimp only [setD, List.set]
  refine r_v rfl rfl (x_load (v := .int .u64 seen) hs 1 rfl rfl Try.isAgg22 rfl) ?_; dsimp only [setD, List.set]
  refine r_call rfl rfl Try.call7 rfl (since_yes (t := now) (s := seen) (h := by omega) (h0 := by omega) (h1 := by omega)) (fun v7 w7 hk7 hp7 => ?_)
  have hv7 := hp7; clear hp7
  replace hs := hs.call hk7; clear hk7
  subst hv7; dsimp only [setD, List.set]
  refine r_v rfl rfl (x_move (v := .tuple #[.int .u64 (now - seen), .bool true]) rfl) ?_; dsimp only [setD, List.set]
  refine r_v rfl rfl (x_extract (v := .int .u64 (now - seen)) rfl rfl) ?_; dsimp only [setD, List.set]
  refine r_v rfl rfl (x_extract (v := .bool true) rfl rfl) ?_; dsimp only [setD, List.set]
  refine r_v rfl rfl (x_assign (v := .int .u64 (now - seen)) rfl) ?_; dsimp only [setD, List.set]
  refine r_v rfl rfl (x_assign (v := .bool true) rfl) ?_; dsimp only [setD, List.set]
  refine o_nil (k6 _ _ ?_)
  clear k6 K6
  refine k5 _ _ ?_
  clear k5 K5
  refine c_seq fun K8 k8 => ?_
  refine c_region fun K9 k9 => ?_
  refine r_v rfl rfl (x_move (v := .bool true) rfl) ?_; dsimp only [setD, List.set]
  refine r_v rfl rfl (x_move (v := .bool true) rfl) ?_; dsimp only [setD, List.set]
  refine r_v rfl rfl (x_field Try.runUnderlying51 rfl Try.sizeOf22 rfl) ?_; dsimp only [setD, List.set]
  refine r_v rfl rfl (x_load (v := .int .u64 life) hs 0 rfl rfl Try.isAgg22 rfl) ?_; dsimp only [setD, List.set]
  refine r_v rfl rfl (x_move (v := .int .u64 (now - seen)) rfl) ?_; dsimp only [setD, List.set]
  refine r_v rfl rfl (x_cmp (b := decide (life < (now - seen))) rfl rfl rfl) ?_; dsimp only [setD, List.set]
  refine r_v rfl rfl (x_pickT (v := .bool (decide (life < (now - seen)))) rfl rfl) ?_; dsimp only [setD, List.set]
  refine r_v rfl rfl (x_assign (v := .bool (decide (life < (now - seen)))) rfl) ?_; dsimp only [setD, List.set]
  refine o_nil (k9 _ _ ?_)
  clear k9 K9
  refine k8 _ _ ?_
  clear k8 K8
  refine c_ret ?_
  change Ex Try.prog Try.f9 _ .ret _ _
  refine ex_ret0 (results_by (rs := [.tmp 4]) (vs := [.bool (decide (life < (now - seen)))]) rfl (rs_tmp rfl (rs_nil))) ⟨hs.kept, ?_⟩
  rw [staleB_yes h]; rfl

theorem isStale_any {w : World} (now : Int) (life : Int) (seen : Int) (h0 : 0 ≤ seen) (h1 : now ≤ 18446744073709551615) : Ok Try.prog No 9 #[.agg #[.int .u64 now, .int .u64 life], .agg #[.slice none 0 0, .int .i64 0, .int .i64 0, .slice none 0 0, .int .i64 0, str [], .int .i64 0, .int .i64 0, .slice none 0 0, .int .i64 0, .slice none 0 0, .int .u64 seen]] w fun v _ => v = .bool (staleB seen now life) := by
  by_cases h : seen < now
  · exact isStale_yes now life seen h h0 h1
  · exact isStale_no now life seen (by omega)

theorem stale_any {w : World} (now : Int) (life : Int) (seen : Int) (h0 : 0 ≤ seen) (h1 : now ≤ 18446744073709551615) : Ok Try.prog No 6 #[.agg #[.slice none 0 0, .int .i64 0, .int .i64 0, .slice none 0 0, .int .i64 0, str [], .int .i64 0, .int .i64 0, .slice none 0 0, .int .i64 0, .slice none 0 0, .int .u64 seen], .int .u64 now, .int .u64 life] w fun v _ => v = .bool (staleB seen now life) := by
  refine e_enter Try.func6 rfl Try.ntmps6 (lv := [.agg #[.slice none 0 0, .int .i64 0, .int .i64 0, .slice none 0 0, .int .i64 0, str [], .int .i64 0, .int .i64 0, .slice none 0 0, .int .i64 0, .slice none 0 0, .int .u64 seen], .int .u64 now, .int .u64 life, u_, u_, u_, u_, u_, u_, u_, u_, u_]) rfl ?_
  have hs := St.start (M := No) w
  refine c_seq fun K1 k1 => ?_
  refine c_region fun K2 k2 => ?_
  refine r_box (v := .agg #[.slice none 0 0, .int .i64 0, .int .i64 0, .slice none 0 0, .int .i64 0, str [], .int .i64 0, .int .i64 0, .slice none 0 0, .int .i64 0, .slice none 0 0, .int .u64 seen]) hs rfl rfl (fun b3 w3 hs3 ht3 => ?_)
  replace hs := hs3; clear hs3 ht3; dsimp only [setD, List.set]
  refine r_v rfl rfl (x_assign (v := .bool false) rfl) ?_; dsimp only [setD, List.set]
  refine o_nil (k2 _ _ ?_)
  clear k2 K2
  refine k1 _ _ ?_
  clear k1 K1
  refine c_seq fun K4 k4 => ?_
  refine c_region fun K5 k5 => ?_
  refine r_v rfl rfl (x_move (v := .int .u64 now) rfl) ?_; dsimp only [setD, List.set]
  refine r_v rfl rfl (x_move (v := .int .u64 life) rfl) ?_; dsimp only [setD, List.set]
  refine r_v rfl rfl (x_build (v := .agg #[.int .u64 now, .int .u64 life]) (ps := [(0, .int .u64 now), (1, .int .u64 life)]) rfl (fun _ => by simp [Instr.build, Instr.fill, Value.cells, str])) ?_; dsimp only [setD, List.set]
  refine r_v rfl rfl (x_loadA hs 0 rfl rfl Try.isAgg41 Try.sizeOf41 (Nat.le_of_ble_eq_true rfl) (u := [.slice none 0 0, .int .i64 0, .int .i64 0, .slice none 0 0, .int .i64 0, str [], .int .i64 0, .int .i64 0, .slice none 0 0, .int .i64 0, .slice none 0 0, .int .u64 seen]) rfl) ?_; dsimp only [setD, List.set]
  refine r_call rfl rfl Try.call9 rfl (isStale_any (now := now) (life := life) (seen := seen) (h0 := by omega) (h1 := by omega)) (fun v6 w6 hk6 hp6 => ?_)
  have hv6 := hp6; clear hp6
  replace hs := hs.call hk6; clear hk6
  subst hv6; dsimp only [setD, List.set]
  refine r_v rfl rfl (x_assign (v := .bool (staleB seen now life)) rfl) ?_; dsimp only [setD, List.set]
  refine o_nil (k5 _ _ ?_)
  clear k5 K5
  refine k4 _ _ ?_
  clear k4 K4
  refine c_ret ?_
  change Ex Try.prog Try.f6 _ .ret _ _
  refine ex_ret0 (results_by (rs := [.tmp 6]) (vs := [.bool (staleB seen now life)]) rfl (rs_tmp rfl (rs_nil))) ⟨hs.kept, ?_⟩
  rfl

theorem shown_ok {w : World} : Ok Try.prog No 4 #[] w fun v _ => v = .bool true := by
  refine e_enter Try.func4 rfl Try.ntmps4 (lv := [u_, u_, u_, u_, u_, u_, u_, u_, u_, u_, u_, u_, u_, u_, u_, u_, u_, u_, u_, u_, u_, u_, u_, u_, u_, u_, u_, u_, u_, u_, u_, u_, u_, u_]) rfl ?_
  have hs := St.start (M := No) w
  refine c_seq fun K1 k1 => ?_
  refine c_region fun K2 k2 => ?_
  refine r_v rfl rfl (x_assign (v := .bool false) rfl) ?_; dsimp only [setD, List.set]
  refine o_nil (k2 _ _ ?_)
  clear k2 K2
  refine k1 _ _ ?_
  clear k1 K1
  refine c_seq fun K3 k3 => ?_
  refine c_region fun K4 k4 => ?_
  refine r_v rfl rfl (x_build (v := .agg #[.slice none 0 0, .int .i64 0, .int .i64 0, .slice none 0 0, .int .i64 0, str [], .int .i64 0, .int .i64 0, .slice none 0 0, .int .i64 0, .slice none 0 0, .int .u64 5]) (ps := [(2, .int .u64 5)]) rfl (fun _ => by simp [Instr.build, Instr.fill, Value.cells, str])) ?_; dsimp only [setD, List.set]
  refine r_alloc hs rfl Try.zeroValue41 (fun b5 w5 hs5 ht5 => ?_)
  replace hs := hs5; clear hs5 ht5; dsimp only [setD, List.set]
  refine r_store (v := .agg #[.slice none 0 0, .int .i64 0, .int .i64 0, .slice none 0 0, .int .i64 0, str [], .int .i64 0, .int .i64 0, .slice none 0 0, .int .i64 0, .slice none 0 0, .int .u64 5]) hs 0 rfl rfl rfl rfl Try.sizeOf41 (Nat.le_of_ble_eq_true rfl) rfl (fun w6 hs6 ht6 => ?_)
  replace hs := hs6; clear hs6 ht6; dsimp only [setD, List.set]
  refine o_nil (k4 _ _ ?_)
  clear k4 K4
  refine k3 _ _ ?_
  clear k3 K3
  refine c_seq fun K7 k7 => ?_
  refine c_region fun K8 k8 => ?_
  refine r_call rfl rfl Try.call5 rfl (advance_ok (a := 5) (b := 7) (h := by omega)) (fun v9 w9 hk9 hp9 => ?_)
  have hv9 := hp9; clear hp9
  replace hs := hs.call hk9; clear hk9
  subst hv9; dsimp only [setD, List.set]
  refine r_v rfl rfl (x_move (v := .tuple #[.int .u64 7, .int .i64 0]) rfl) ?_; dsimp only [setD, List.set]
  refine r_v rfl rfl (x_extract (v := .int .u64 7) rfl rfl) ?_; dsimp only [setD, List.set]
  refine r_v rfl rfl (x_extract (v := .int .i64 0) rfl rfl) ?_; dsimp only [setD, List.set]
  refine r_v rfl rfl (x_assign (v := .int .u64 7) rfl) ?_; dsimp only [setD, List.set]
  refine r_v rfl rfl (x_assign (v := .int .i64 0) rfl) ?_; dsimp only [setD, List.set]
  refine o_nil (k8 _ _ ?_)
  clear k8 K8
  refine k7 _ _ ?_
  clear k7 K7
  refine c_seq fun K10 k10 => ?_
  refine c_region fun K11 k11 => ?_
  refine r_call rfl rfl Try.call5 rfl (advance_no (a := 7) (b := 5) (h := by omega) (h0 := by omega) (h1 := by omega)) (fun v12 w12 hk12 hp12 => ?_)
  have hv12 := hp12; clear hp12
  replace hs := hs.call hk12; clear hk12
  subst hv12; dsimp only [setD, List.set]
  refine r_v rfl rfl (x_move (v := .tuple #[.int .u64 0, .int .i64 140]) rfl) ?_; dsimp only [setD, List.set]
  refine r_v rfl rfl (x_extract (v := .int .u64 0) rfl rfl) ?_; dsimp only [setD, List.set]
  refine r_v rfl rfl (x_extract (v := .int .i64 140) rfl rfl) ?_; dsimp only [setD, List.set]
  refine r_v rfl rfl (x_assign (v := .int .u64 0) rfl) ?_; dsimp only [setD, List.set]
  refine r_v rfl rfl (x_assign (v := .int .i64 140) rfl) ?_; dsimp only [setD, List.set]
  refine o_nil (k11 _ _ ?_)
  clear k11 K11
  refine k10 _ _ ?_
  clear k10 K10
  refine c_seq fun K13 k13 => ?_
  refine c_region fun K14 k14 => ?_
  refine r_v rfl rfl (x_loadA hs 0 rfl rfl Try.isAgg41 Try.sizeOf41 (Nat.le_of_ble_eq_true rfl) (u := [.slice none 0 0, .int .i64 0, .int .i64 0, .slice none 0 0, .int .i64 0, str [], .int .i64 0, .int .i64 0, .slice none 0 0, .int .i64 0, .slice none 0 0, .int .u64 5]) rfl) ?_; dsimp only [setD, List.set]
  refine r_call rfl rfl Try.call6 rfl (stale_any (now := 15) (life := 10) (seen := 5) (h0 := by omega) (h1 := by omega)) (fun v15 w15 hk15 hp15 => ?_)
  have hv15 := hp15; clear hp15
  replace hs := hs.call hk15; clear hk15
  subst hv15; dsimp only [setD, List.set]
  refine r_v rfl rfl (x_not rfl) ?_; dsimp only [setD, List.set]
  refine r_v rfl rfl (x_move (v := .bool (!(staleB 5 15 10))) rfl) ?_; dsimp only [setD, List.set]
  have hb16 : (staleB 5 15 10) = false := by decide
  rw [hb16]
  refine r_v rfl rfl (x_loadA hs 0 rfl rfl Try.isAgg41 Try.sizeOf41 (Nat.le_of_ble_eq_true rfl) (u := [.slice none 0 0, .int .i64 0, .int .i64 0, .slice none 0 0, .int .i64 0, str [], .int .i64 0, .int .i64 0, .slice none 0 0, .int .i64 0, .slice none 0 0, .int .u64 5]) rfl) ?_; dsimp only [setD, List.set]
  refine r_call rfl rfl Try.call6 rfl (stale_any (now := 16) (life := 10) (seen := 5) (h0 := by omega) (h1 := by omega)) (fun v17 w17 hk17 hp17 => ?_)
  have hv17 := hp17; clear hp17
  replace hs := hs.call hk17; clear hk17
  subst hv17; dsimp only [setD, List.set]
  refine r_v rfl rfl (x_pickT (v := .bool (staleB 5 16 10)) rfl rfl) ?_; dsimp only [setD, List.set]
  refine r_v rfl rfl (x_move (v := .bool (staleB 5 16 10)) rfl) ?_; dsimp only [setD, List.set]
  have hb18 : (staleB 5 16 10) = true := by decide
  rw [hb18]
  refine r_v rfl rfl (x_move (v := .int .u64 7) rfl) ?_; dsimp only [setD, List.set]
  refine r_v rfl rfl (x_cmp (b := true) rfl rfl (by decide)) ?_; dsimp only [setD, List.set]
  refine r_v rfl rfl (x_pickT (v := .bool true) rfl rfl) ?_; dsimp only [setD, List.set]
  refine r_v rfl rfl (x_move (v := .bool true) rfl) ?_; dsimp only [setD, List.set]
  refine r_v rfl rfl (x_move (v := .int .i64 0) rfl) ?_; dsimp only [setD, List.set]
  refine r_v rfl rfl (x_cmp (b := true) rfl rfl (by decide)) ?_; dsimp only [setD, List.set]
  refine r_v rfl rfl (x_pickT (v := .bool true) rfl rfl) ?_; dsimp only [setD, List.set]
  refine r_v rfl rfl (x_move (v := .bool true) rfl) ?_; dsimp only [setD, List.set]
  refine r_v rfl rfl (x_move (v := .int .i64 140) rfl) ?_; dsimp only [setD, List.set]
  refine r_v rfl rfl (x_cmp (b := true) rfl rfl (by decide)) ?_; dsimp only [setD, List.set]
  refine r_v rfl rfl (x_pickT (v := .bool true) rfl rfl) ?_; dsimp only [setD, List.set]
  refine r_v rfl rfl (x_assign (v := .bool true) rfl) ?_; dsimp only [setD, List.set]
  refine o_nil (k14 _ _ ?_)
  clear k14 K14
  refine k13 _ _ ?_
  clear k13 K13
  refine c_ret ?_
  change Ex Try.prog Try.f4 _ .ret _ _
  refine ex_ret0 (results_by (rs := [.tmp 0]) (vs := [.bool true]) rfl (rs_tmp rfl (rs_nil))) ⟨hs.kept, ?_⟩
  rfl

theorem staleB_later {seen a b life : Int} (h : a ≤ b) (h1 : staleB seen a life = true) (h2 : staleB seen b life = false) : False := by
  simp [staleB] at h1 h2; omega

theorem law_no {w : World} (now : Int) (next : Int) (seen : Int) (life : Int) (h1 : 0 ≤ now) (h2 : now ≤ 18446744073709551615) (h3 : 0 ≤ next) (h4 : next ≤ 18446744073709551615) (h5 : 0 ≤ seen) (h6 : seen ≤ 18446744073709551615) (h : next < now) : Ok Try.prog No 3 #[.int .u64 now, .int .u64 next, .int .u64 seen, .int .u64 life] w fun v _ => v = .bool true := by
  refine e_enter Try.func3 rfl Try.ntmps3 (lv := [.int .u64 now, .int .u64 next, .int .u64 seen, .int .u64 life, u_, u_, u_, u_, u_, u_, u_, u_, u_, u_, u_, u_, u_, u_, u_, u_, u_, u_, u_, u_, u_, u_, u_, u_, u_, u_, u_, u_, u_, u_, u_, u_, u_, u_, u_, u_, u_, u_, u_, u_, u_, u_, u_, u_, u_, u_, u_, u_, u_, u_, u_, u_, u_, u_, u_, u_, u_, u_]) rfl ?_
  have hs := St.start (M := No) w
  refine c_seq fun K1 k1 => ?_
  refine c_region fun K2 k2 => ?_
  refine r_v rfl rfl (x_assign (v := .bool false) rfl) ?_; dsimp only [setD, List.set]
  refine o_nil (k2 _ _ ?_)
  clear k2 K2
  refine k1 _ _ ?_
  clear k1 K1
  refine c_seq fun K3 k3 => ?_
  refine c_region fun K4 k4 => ?_
  refine r_call rfl rfl Try.call4 rfl (shown_ok) (fun v5 w5 hk5 hp5 => ?_)
  have hv5 := hp5; clear hp5
  replace hs := hs.call hk5; clear hk5
  subst hv5; dsimp only [setD, List.set]
  refine r_v rfl rfl (x_assign (v := .bool true) rfl) ?_; dsimp only [setD, List.set]
  refine o_nil (k4 _ _ ?_)
  clear k4 K4
  refine k3 _ _ ?_
  clear k3 K3
  refine c_seq fun K6 k6 => ?_
  refine c_region fun K7 k7 => ?_
  refine r_v rfl rfl (x_move (v := .int .u64 now) rfl) ?_; dsimp only [setD, List.set]
  refine r_v rfl rfl (x_move (v := .int .u64 next) rfl) ?_; dsimp only [setD, List.set]
  refine r_call rfl rfl Try.call5 rfl (advance_no (a := now) (b := next) (h := by omega) (h0 := by omega) (h1 := by omega)) (fun v8 w8 hk8 hp8 => ?_)
  have hv8 := hp8; clear hp8
  replace hs := hs.call hk8; clear hk8
  subst hv8; dsimp only [setD, List.set]
  refine r_v rfl rfl (x_move (v := .tuple #[.int .u64 0, .int .i64 140]) rfl) ?_; dsimp only [setD, List.set]
  refine r_v rfl rfl (x_extract (v := .int .u64 0) rfl rfl) ?_; dsimp only [setD, List.set]
  refine r_v rfl rfl (x_extract (v := .int .i64 140) rfl rfl) ?_; dsimp only [setD, List.set]
  refine r_v rfl rfl (x_assign (v := .int .u64 0) rfl) ?_; dsimp only [setD, List.set]
  refine r_v rfl rfl (x_assign (v := .int .i64 140) rfl) ?_; dsimp only [setD, List.set]
  refine o_nil (k7 _ _ ?_)
  clear k7 K7
  refine k6 _ _ ?_
  clear k6 K6
  refine c_seq fun K9 k9 => ?_
  refine c_region fun K10 k10 => ?_
  refine r_v rfl rfl (x_move (v := .int .u64 seen) rfl) ?_; dsimp only [setD, List.set]
  refine r_v rfl rfl (x_build (v := .agg #[.slice none 0 0, .int .i64 0, .int .i64 0, .slice none 0 0, .int .i64 0, str [], .int .i64 0, .int .i64 0, .slice none 0 0, .int .i64 0, .slice none 0 0, .int .u64 seen]) (ps := [(2, .int .u64 seen)]) rfl (fun _ => by simp [Instr.build, Instr.fill, Value.cells, str])) ?_; dsimp only [setD, List.set]
  refine r_alloc hs rfl Try.zeroValue41 (fun b11 w11 hs11 ht11 => ?_)
  replace hs := hs11; clear hs11 ht11; dsimp only [setD, List.set]
  refine r_store (v := .agg #[.slice none 0 0, .int .i64 0, .int .i64 0, .slice none 0 0, .int .i64 0, str [], .int .i64 0, .int .i64 0, .slice none 0 0, .int .i64 0, .slice none 0 0, .int .u64 seen]) hs 0 rfl rfl rfl rfl Try.sizeOf41 (Nat.le_of_ble_eq_true rfl) rfl (fun w12 hs12 ht12 => ?_)
  replace hs := hs12; clear hs12 ht12; dsimp only [setD, List.set]
  refine o_nil (k10 _ _ ?_)
  clear k10 K10
  refine k9 _ _ ?_
  clear k9 K9
  refine c_seq fun K13 k13 => ?_
  refine c_seq fun K14 k14 => ?_
  refine c_region fun K15 k15 => ?_
  refine r_v rfl rfl (x_move (v := .int .i64 140) rfl) ?_; dsimp only [setD, List.set]
  refine r_v rfl rfl (x_cmp (b := false) rfl rfl (by decide)) ?_; dsimp only [setD, List.set]
  refine r_v rfl rfl (x_move (v := .int .u64 next) rfl) ?_; dsimp only [setD, List.set]
  refine r_v rfl rfl (x_move (v := .int .u64 now) rfl) ?_; dsimp only [setD, List.set]
  refine r_v rfl rfl (x_cmp (b := decide (next ≥ now)) rfl rfl rfl) ?_; dsimp only [setD, List.set]
  refine r_v rfl rfl (x_cmpB (b := !(false == (decide (next ≥ now)))) Try.runUnderlying4 rfl rfl rfl) ?_; dsimp only [setD, List.set]
  refine r_v rfl rfl (x_move (v := .bool (!(false == (decide (next ≥ now))))) rfl) ?_; dsimp only [setD, List.set]
  rcases Bool.eq_false_or_eq_true (false == (decide (next ≥ now))) with hb16 | hb16
  · first
    | (have hc16 : false = (decide (next ≥ now)) := beq_iff_eq.1 hb16; exfalso; first | omega | (exact staleB_later (a := min now next) (b := max now next) (by omega) (by assumption) (by assumption)))
    | skip
      have hc16 : false = (decide (next ≥ now)) := beq_iff_eq.1 hb16
      rw [hb16]
      refine r_v rfl rfl (x_move (v := .int .i64 140) rfl) ?_; dsimp only [setD, List.set]
      refine r_v rfl rfl (x_cmp (b := false) rfl rfl (by decide)) ?_; dsimp only [setD, List.set]
      refine r_v rfl rfl (x_move (v := .bool false) rfl) ?_; dsimp only [setD, List.set]
      refine r_skip rfl ?_; dsimp only [setD, List.set]
      refine r_skip rfl ?_; dsimp only [setD, List.set]
      refine r_skip rfl ?_; dsimp only [setD, List.set]
      refine r_v rfl rfl (x_pickF (v := .bool false) rfl rfl) ?_; dsimp only [setD, List.set]
      refine r_v rfl rfl (x_pickF (v := .bool false) rfl rfl) ?_; dsimp only [setD, List.set]
      refine o_nil (k15 _ _ ?_)
      clear k15 K15
      refine k14 _ _ ?_
      clear k14 K14
      refine c_false rfl ?_
      refine c_skip ?_
      refine k13 _ _ ?_
      clear k13 K13
      refine c_seq fun K17 k17 => ?_
      refine c_region fun K18 k18 => ?_
      refine r_v rfl rfl (x_move (v := .bool true) rfl) ?_; dsimp only [setD, List.set]
      refine r_v rfl rfl (x_move (v := .bool true) rfl) ?_; dsimp only [setD, List.set]
      refine r_v rfl rfl (x_loadA hs 0 rfl rfl Try.isAgg41 Try.sizeOf41 (Nat.le_of_ble_eq_true rfl) (u := [.slice none 0 0, .int .i64 0, .int .i64 0, .slice none 0 0, .int .i64 0, str [], .int .i64 0, .int .i64 0, .slice none 0 0, .int .i64 0, .slice none 0 0, .int .u64 seen]) rfl) ?_; dsimp only [setD, List.set]
      refine r_v rfl rfl (x_move (v := .int .u64 now) rfl) ?_; dsimp only [setD, List.set]
      refine r_v rfl rfl (x_move (v := .int .u64 next) rfl) ?_; dsimp only [setD, List.set]
      refine r_v rfl rfl (x_min rfl rfl (min_if _ _)) ?_; dsimp only [setD, List.set]
      refine r_v rfl rfl (x_move (v := .int .u64 life) rfl) ?_; dsimp only [setD, List.set]
      refine r_call rfl rfl Try.call6 rfl (stale_any (now := min now next) (life := life) (seen := seen) (h0 := by omega) (h1 := by omega)) (fun v19 w19 hk19 hp19 => ?_)
      have hv19 := hp19; clear hp19
      replace hs := hs.call hk19; clear hk19
      subst hv19; dsimp only [setD, List.set]
      refine r_v rfl rfl (x_not rfl) ?_; dsimp only [setD, List.set]
      refine r_v rfl rfl (x_move (v := .bool (!(staleB seen (min now next) life))) rfl) ?_; dsimp only [setD, List.set]
      rcases Bool.eq_false_or_eq_true (staleB seen (min now next) life) with hb20 | hb20
      · first
        | (skip; exfalso; first | omega | (exact staleB_later (a := min now next) (b := max now next) (by omega) (by assumption) (by assumption)))
        | skip
          rw [hb20]
          refine r_v rfl rfl (x_loadA hs 0 rfl rfl Try.isAgg41 Try.sizeOf41 (Nat.le_of_ble_eq_true rfl) (u := [.slice none 0 0, .int .i64 0, .int .i64 0, .slice none 0 0, .int .i64 0, str [], .int .i64 0, .int .i64 0, .slice none 0 0, .int .i64 0, .slice none 0 0, .int .u64 seen]) rfl) ?_; dsimp only [setD, List.set]
          refine r_v rfl rfl (x_move (v := .int .u64 now) rfl) ?_; dsimp only [setD, List.set]
          refine r_v rfl rfl (x_move (v := .int .u64 next) rfl) ?_; dsimp only [setD, List.set]
          refine r_v rfl rfl (x_max rfl rfl (max_if _ _)) ?_; dsimp only [setD, List.set]
          refine r_v rfl rfl (x_move (v := .int .u64 life) rfl) ?_; dsimp only [setD, List.set]
          refine r_call rfl rfl Try.call6 rfl (stale_any (now := max now next) (life := life) (seen := seen) (h0 := by omega) (h1 := by omega)) (fun v21 w21 hk21 hp21 => ?_)
          have hv21 := hp21; clear hp21
          replace hs := hs.call hk21; clear hk21
          subst hv21; dsimp only [setD, List.set]
          refine r_v rfl rfl (x_pickF (v := .bool (staleB seen (max now next) life)) rfl rfl) ?_; dsimp only [setD, List.set]
          refine r_v rfl rfl (x_pickT (v := .bool (staleB seen (max now next) life)) rfl rfl) ?_; dsimp only [setD, List.set]
          refine r_v rfl rfl (x_move (v := .bool (staleB seen (max now next) life)) rfl) ?_; dsimp only [setD, List.set]
          rcases Bool.eq_false_or_eq_true (staleB seen (max now next) life) with hb22 | hb22
          · first
            | (skip; exfalso; first | omega | (exact staleB_later (a := min now next) (b := max now next) (by omega) (by assumption) (by assumption)))
            | skip
              rw [hb22]
              refine r_v rfl rfl (x_loadA hs 0 rfl rfl Try.isAgg41 Try.sizeOf41 (Nat.le_of_ble_eq_true rfl) (u := [.slice none 0 0, .int .i64 0, .int .i64 0, .slice none 0 0, .int .i64 0, str [], .int .i64 0, .int .i64 0, .slice none 0 0, .int .i64 0, .slice none 0 0, .int .u64 seen]) rfl) ?_; dsimp only [setD, List.set]
              refine r_v rfl rfl (x_move (v := .int .u64 seen) rfl) ?_; dsimp only [setD, List.set]
              refine r_v rfl rfl (x_move (v := .int .u64 life) rfl) ?_; dsimp only [setD, List.set]
              refine r_call rfl rfl Try.call6 rfl (stale_any (now := seen) (life := life) (seen := seen) (h0 := by omega) (h1 := by omega)) (fun v23 w23 hk23 hp23 => ?_)
              have hv23 := hp23; clear hp23
              replace hs := hs.call hk23; clear hk23
              subst hv23; dsimp only [setD, List.set]
              refine r_v rfl rfl (x_not rfl) ?_; dsimp only [setD, List.set]
              refine r_v rfl rfl (x_pickT (v := .bool (!(staleB seen seen life))) rfl rfl) ?_; dsimp only [setD, List.set]
              refine r_v rfl rfl (x_assign (v := .bool (!(staleB seen seen life))) rfl) ?_; dsimp only [setD, List.set]
              refine o_nil (k18 _ _ ?_)
              clear k18 K18
              refine k17 _ _ ?_
              clear k17 K17
              refine c_ret ?_
              change Ex Try.prog Try.f3 _ .ret _ _
              refine ex_ret0 (results_by (rs := [.tmp 8]) (vs := [.bool (!(staleB seen seen life))]) rfl (rs_tmp rfl (rs_nil))) ⟨hs.kept, ?_⟩
              first | rfl | (rw [show staleB seen seen life = false from staleB_no (by omega)]; rfl) | (exfalso; first | (simp_all; done) | (simp_all; omega))
          · first
            | (skip; exfalso; first | omega | (exact staleB_later (a := min now next) (b := max now next) (by omega) (by assumption) (by assumption)))
            | skip
              rw [hb22]
              refine r_skip rfl ?_; dsimp only [setD, List.set]
              refine r_skip rfl ?_; dsimp only [setD, List.set]
              refine r_skip rfl ?_; dsimp only [setD, List.set]
              refine r_skip rfl ?_; dsimp only [setD, List.set]
              refine r_skip rfl ?_; dsimp only [setD, List.set]
              refine r_v rfl rfl (x_pickF (v := .bool false) rfl rfl) ?_; dsimp only [setD, List.set]
              refine r_v rfl rfl (x_assign (v := .bool false) rfl) ?_; dsimp only [setD, List.set]
              refine o_nil (k18 _ _ ?_)
              clear k18 K18
              refine k17 _ _ ?_
              clear k17 K17
              refine c_ret ?_
              change Ex Try.prog Try.f3 _ .ret _ _
              refine ex_ret0 (results_by (rs := [.tmp 8]) (vs := [.bool false]) rfl (rs_tmp rfl (rs_nil))) ⟨hs.kept, ?_⟩
              first | rfl | (rw [show staleB seen seen life = false from staleB_no (by omega)]; rfl) | (exfalso; first | (simp_all; done) | (simp_all; omega))
      · first
        | (skip; exfalso; first | omega | (exact staleB_later (a := min now next) (b := max now next) (by omega) (by assumption) (by assumption)))
        | skip
          rw [hb20]
          refine r_skip rfl ?_; dsimp only [setD, List.set]
          refine r_skip rfl ?_; dsimp only [setD, List.set]
          refine r_skip rfl ?_; dsimp only [setD, List.set]
          refine r_skip rfl ?_; dsimp only [setD, List.set]
          refine r_skip rfl ?_; dsimp only [setD, List.set]
          refine r_skip rfl ?_; dsimp only [setD, List.set]
          refine r_v rfl rfl (x_pickT (v := .bool true) rfl rfl) ?_; dsimp only [setD, List.set]
          refine r_v rfl rfl (x_pickT (v := .bool true) rfl rfl) ?_; dsimp only [setD, List.set]
          refine r_v rfl rfl (x_move (v := .bool true) rfl) ?_; dsimp only [setD, List.set]
          refine r_v rfl rfl (x_loadA hs 0 rfl rfl Try.isAgg41 Try.sizeOf41 (Nat.le_of_ble_eq_true rfl) (u := [.slice none 0 0, .int .i64 0, .int .i64 0, .slice none 0 0, .int .i64 0, str [], .int .i64 0, .int .i64 0, .slice none 0 0, .int .i64 0, .slice none 0 0, .int .u64 seen]) rfl) ?_; dsimp only [setD, List.set]
          refine r_v rfl rfl (x_move (v := .int .u64 seen) rfl) ?_; dsimp only [setD, List.set]
          refine r_v rfl rfl (x_move (v := .int .u64 life) rfl) ?_; dsimp only [setD, List.set]
          refine r_call rfl rfl Try.call6 rfl (stale_any (now := seen) (life := life) (seen := seen) (h0 := by omega) (h1 := by omega)) (fun v24 w24 hk24 hp24 => ?_)
          have hv24 := hp24; clear hp24
          replace hs := hs.call hk24; clear hk24
          subst hv24; dsimp only [setD, List.set]
          refine r_v rfl rfl (x_not rfl) ?_; dsimp only [setD, List.set]
          refine r_v rfl rfl (x_pickT (v := .bool (!(staleB seen seen life))) rfl rfl) ?_; dsimp only [setD, List.set]
          refine r_v rfl rfl (x_assign (v := .bool (!(staleB seen seen life))) rfl) ?_; dsimp only [setD, List.set]
          refine o_nil (k18 _ _ ?_)
          clear k18 K18
          refine k17 _ _ ?_
          clear k17 K17
          refine c_ret ?_
          change Ex Try.prog Try.f3 _ .ret _ _
          refine ex_ret0 (results_by (rs := [.tmp 8]) (vs := [.bool (!(staleB seen seen life))]) rfl (rs_tmp rfl (rs_nil))) ⟨hs.kept, ?_⟩
          first | rfl | (rw [show staleB seen seen life = false from staleB_no (by omega)]; rfl) | (exfalso; first | (simp_all; done) | (simp_all; omega))
  · first
    | (have hc16 : false ≠ (decide (next ≥ now)) := beq_eq_false_iff_ne.1 hb16; exfalso; first | omega | (exact staleB_later (a := min now next) (b := max now next) (by omega) (by assumption) (by assumption)))
    | skip
      have hc16 : false ≠ (decide (next ≥ now)) := beq_eq_false_iff_ne.1 hb16
      rw [hb16]
      refine r_skip rfl ?_; dsimp only [setD, List.set]
      refine r_skip rfl ?_; dsimp only [setD, List.set]
      refine r_skip rfl ?_; dsimp only [setD, List.set]
      refine r_skip rfl ?_; dsimp only [setD, List.set]
      refine r_skip rfl ?_; dsimp only [setD, List.set]
      refine r_skip rfl ?_; dsimp only [setD, List.set]
      refine r_skip rfl ?_; dsimp only [setD, List.set]
      refine r_v rfl rfl (x_pickT (v := .bool true) rfl rfl) ?_; dsimp only [setD, List.set]
      refine o_nil (k15 _ _ ?_)
      clear k15 K15
      refine k14 _ _ ?_
      clear k14 K14
      refine c_true rfl ?_
      refine c_seq fun K25 k25 => ?_
      refine c_region fun K26 k26 => ?_
      refine r_v rfl rfl (x_assign (v := .bool false) rfl) ?_; dsimp only [setD, List.set]
      refine o_nil (k26 _ _ ?_)
      clear k26 K26
      refine k25 _ _ ?_
      clear k25 K25
      refine c_ret ?_
      change Ex Try.prog Try.f3 _ .ret _ _
      refine ex_ret0 (results_by (rs := [.tmp 8]) (vs := [.bool false]) rfl (rs_tmp rfl (rs_nil))) ⟨hs.kept, ?_⟩
      first | rfl | (rw [show staleB seen seen life = false from staleB_no (by omega)]; rfl) | (exfalso; first | (simp_all; done) | (simp_all; omega))

theorem law_ok {w : World} (now : Int) (next : Int) (seen : Int) (life : Int) (h1 : 0 ≤ now) (h2 : now ≤ 18446744073709551615) (h3 : 0 ≤ next) (h4 : next ≤ 18446744073709551615) (h5 : 0 ≤ seen) (h6 : seen ≤ 18446744073709551615) (h : now ≤ next) : Ok Try.prog No 3 #[.int .u64 now, .int .u64 next, .int .u64 seen, .int .u64 life] w fun v _ => v = .bool true := by
  refine e_enter Try.func3 rfl Try.ntmps3 (lv := [.int .u64 now, .int .u64 next, .int .u64 seen, .int .u64 life, u_, u_, u_, u_, u_, u_, u_, u_, u_, u_, u_, u_, u_, u_, u_, u_, u_, u_, u_, u_, u_, u_, u_, u_, u_, u_, u_, u_, u_, u_, u_, u_, u_, u_, u_, u_, u_, u_, u_, u_, u_, u_, u_, u_, u_, u_, u_, u_, u_, u_, u_, u_, u_, u_, u_, u_, u_, u_]) rfl ?_
  have hs := St.start (M := No) w
  refine c_seq fun K1 k1 => ?_
  refine c_region fun K2 k2 => ?_
  refine r_v rfl rfl (x_assign (v := .bool false) rfl) ?_; dsimp only [setD, List.set]
  refine o_nil (k2 _ _ ?_)
  clear k2 K2
  refine k1 _ _ ?_
  clear k1 K1
  refine c_seq fun K3 k3 => ?_
  refine c_region fun K4 k4 => ?_
  refine r_call rfl rfl Try.call4 rfl (shown_ok) (fun v5 w5 hk5 hp5 => ?_)
  have hv5 := hp5; clear hp5
  replace hs := hs.call hk5; clear hk5
  subst hv5; dsimp only [setD, List.set]
  refine r_v rfl rfl (x_assign (v := .bool true) rfl) ?_; dsimp only [setD, List.set]
  refine o_nil (k4 _ _ ?_)
  clear k4 K4
  refine k3 _ _ ?_
  clear k3 K3
  refine c_seq fun K6 k6 => ?_
  refine c_region fun K7 k7 => ?_
  refine r_v rfl rfl (x_move (v := .int .u64 now) rfl) ?_; dsimp only [setD, List.set]
  refine r_v rfl rfl (x_move (v := .int .u64 next) rfl) ?_; dsimp only [setD, List.set]
  refine r_call rfl rfl Try.call5 rfl (advance_ok (a := now) (b := next) (h := by omega)) (fun v8 w8 hk8 hp8 => ?_)
  have hv8 := hp8; clear hp8
  replace hs := hs.call hk8; clear hk8
  subst hv8; dsimp only [setD, List.set]
  refine r_v rfl rfl (x_move (v := .tuple #[.int .u64 next, .int .i64 0]) rfl) ?_; dsimp only [setD, List.set]
  refine r_v rfl rfl (x_extract (v := .int .u64 next) rfl rfl) ?_; dsimp only [setD, List.set]
  refine r_v rfl rfl (x_extract (v := .int .i64 0) rfl rfl) ?_; dsimp only [setD, List.set]
  refine r_v rfl rfl (x_assign (v := .int .u64 next) rfl) ?_; dsimp only [setD, List.set]
  refine r_v rfl rfl (x_assign (v := .int .i64 0) rfl) ?_; dsimp only [setD, List.set]
  refine o_nil (k7 _ _ ?_)
  clear k7 K7
  refine k6 _ _ ?_
  clear k6 K6
  refine c_seq fun K9 k9 => ?_
  refine c_region fun K10 k10 => ?_
  refine r_v rfl rfl (x_move (v := .int .u64 seen) rfl) ?_; dsimp only [setD, List.set]
  refine r_v rfl rfl (x_build (v := .agg #[.slice none 0 0, .int .i64 0, .int .i64 0, .slice none 0 0, .int .i64 0, str [], .int .i64 0, .int .i64 0, .slice none 0 0, .int .i64 0, .slice none 0 0, .int .u64 seen]) (ps := [(2, .int .u64 seen)]) rfl (fun _ => by simp [Instr.build, Instr.fill, Value.cells, str])) ?_; dsimp only [setD, List.set]
  refine r_alloc hs rfl Try.zeroValue41 (fun b11 w11 hs11 ht11 => ?_)
  replace hs := hs11; clear hs11 ht11; dsimp only [setD, List.set]
  refine r_store (v := .agg #[.slice none 0 0, .int .i64 0, .int .i64 0, .slice none 0 0, .int .i64 0, str [], .int .i64 0, .int .i64 0, .slice none 0 0, .int .i64 0, .slice none 0 0, .int .u64 seen]) hs 0 rfl rfl rfl rfl Try.sizeOf41 (Nat.le_of_ble_eq_true rfl) rfl (fun w12 hs12 ht12 => ?_)
  replace hs := hs12; clear hs12 ht12; dsimp only [setD, List.set]
  refine o_nil (k10 _ _ ?_)
  clear k10 K10
  refine k9 _ _ ?_
  clear k9 K9
  refine c_seq fun K13 k13 => ?_
  refine c_seq fun K14 k14 => ?_
  refine c_region fun K15 k15 => ?_
  refine r_v rfl rfl (x_move (v := .int .i64 0) rfl) ?_; dsimp only [setD, List.set]
  refine r_v rfl rfl (x_cmp (b := true) rfl rfl (by decide)) ?_; dsimp only [setD, List.set]
  refine r_v rfl rfl (x_move (v := .int .u64 next) rfl) ?_; dsimp only [setD, List.set]
  refine r_v rfl rfl (x_move (v := .int .u64 now) rfl) ?_; dsimp only [setD, List.set]
  refine r_v rfl rfl (x_cmp (b := decide (next ≥ now)) rfl rfl rfl) ?_; dsimp only [setD, List.set]
  refine r_v rfl rfl (x_cmpB (b := !(true == (decide (next ≥ now)))) Try.runUnderlying4 rfl rfl rfl) ?_; dsimp only [setD, List.set]
  refine r_v rfl rfl (x_move (v := .bool (!(true == (decide (next ≥ now))))) rfl) ?_; dsimp only [setD, List.set]
  rcases Bool.eq_false_or_eq_true (true == (decide (next ≥ now))) with hb16 | hb16
  · first
    | (have hc16 : true = (decide (next ≥ now)) := beq_iff_eq.1 hb16; exfalso; first | omega | (exact staleB_later (a := min now next) (b := max now next) (by omega) (by assumption) (by assumption)))
    | skip
      have hc16 : true = (decide (next ≥ now)) := beq_iff_eq.1 hb16
      rw [hb16]
      refine r_v rfl rfl (x_move (v := .int .i64 0) rfl) ?_; dsimp only [setD, List.set]
      refine r_v rfl rfl (x_cmp (b := true) rfl rfl (by decide)) ?_; dsimp only [setD, List.set]
      refine r_v rfl rfl (x_move (v := .bool true) rfl) ?_; dsimp only [setD, List.set]
      refine r_v rfl rfl (x_move (v := .int .u64 next) rfl) ?_; dsimp only [setD, List.set]
      refine r_v rfl rfl (x_move (v := .int .u64 next) rfl) ?_; dsimp only [setD, List.set]
      refine r_v rfl rfl (x_cmp (b := next != next) rfl rfl rfl) ?_; dsimp only [setD, List.set]
      refine r_v rfl rfl (x_pickT (v := .bool (next != next)) rfl rfl) ?_; dsimp only [setD, List.set]
      refine r_v rfl rfl (x_pickF (v := .bool (next != next)) rfl rfl) ?_; dsimp only [setD, List.set]
      refine o_nil (k15 _ _ ?_)
      clear k15 K15
      refine k14 _ _ ?_
      clear k14 K14
      rcases Bool.eq_false_or_eq_true (next != next) with hb17 | hb17
      · first
        | (have hc17 : next ≠ next := bne_iff_ne.1 hb17; exfalso; first | omega | (exact staleB_later (a := min now next) (b := max now next) (by omega) (by assumption) (by assumption)))
        | skip
          have hc17 : next ≠ next := bne_iff_ne.1 hb17
          rw [hb17]
          refine c_true rfl ?_
          refine c_seq fun K18 k18 => ?_
          refine c_region fun K19 k19 => ?_
          refine r_v rfl rfl (x_assign (v := .bool false) rfl) ?_; dsimp only [setD, List.set]
          refine o_nil (k19 _ _ ?_)
          clear k19 K19
          refine k18 _ _ ?_
          clear k18 K18
          refine c_ret ?_
          change Ex Try.prog Try.f3 _ .ret _ _
          refine ex_ret0 (results_by (rs := [.tmp 8]) (vs := [.bool false]) rfl (rs_tmp rfl (rs_nil))) ⟨hs.kept, ?_⟩
          first | rfl | (rw [show staleB seen seen life = false from staleB_no (by omega)]; rfl) | (exfalso; first | (simp_all; done) | (simp_all; omega))
      · first
        | (have hc17 : next = next := bne_eq_false_iff_eq.1 hb17; exfalso; first | omega | (exact staleB_later (a := min now next) (b := max now next) (by omega) (by assumption) (by assumption)))
        | skip
          have hc17 : next = next := bne_eq_false_iff_eq.1 hb17
          rw [hb17]
          refine c_false rfl ?_
          refine c_skip ?_
          refine k13 _ _ ?_
          clear k13 K13
          refine c_seq fun K20 k20 => ?_
          refine c_region fun K21 k21 => ?_
          refine r_v rfl rfl (x_move (v := .bool true) rfl) ?_; dsimp only [setD, List.set]
          refine r_v rfl rfl (x_move (v := .bool true) rfl) ?_; dsimp only [setD, List.set]
          refine r_v rfl rfl (x_loadA hs 0 rfl rfl Try.isAgg41 Try.sizeOf41 (Nat.le_of_ble_eq_true rfl) (u := [.slice none 0 0, .int .i64 0, .int .i64 0, .slice none 0 0, .int .i64 0, str [], .int .i64 0, .int .i64 0, .slice none 0 0, .int .i64 0, .slice none 0 0, .int .u64 seen]) rfl) ?_; dsimp only [setD, List.set]
          refine r_v rfl rfl (x_move (v := .int .u64 now) rfl) ?_; dsimp only [setD, List.set]
          refine r_v rfl rfl (x_move (v := .int .u64 next) rfl) ?_; dsimp only [setD, List.set]
          refine r_v rfl rfl (x_min rfl rfl (min_if _ _)) ?_; dsimp only [setD, List.set]
          refine r_v rfl rfl (x_move (v := .int .u64 life) rfl) ?_; dsimp only [setD, List.set]
          refine r_call rfl rfl Try.call6 rfl (stale_any (now := min now next) (life := life) (seen := seen) (h0 := by omega) (h1 := by omega)) (fun v22 w22 hk22 hp22 => ?_)
          have hv22 := hp22; clear hp22
          replace hs := hs.call hk22; clear hk22
          subst hv22; dsimp only [setD, List.set]
          refine r_v rfl rfl (x_not rfl) ?_; dsimp only [setD, List.set]
          refine r_v rfl rfl (x_move (v := .bool (!(staleB seen (min now next) life))) rfl) ?_; dsimp only [setD, List.set]
          rcases Bool.eq_false_or_eq_true (staleB seen (min now next) life) with hb23 | hb23
          · first
            | (skip; exfalso; first | omega | (exact staleB_later (a := min now next) (b := max now next) (by omega) (by assumption) (by assumption)))
            | skip
              rw [hb23]
              refine r_v rfl rfl (x_loadA hs 0 rfl rfl Try.isAgg41 Try.sizeOf41 (Nat.le_of_ble_eq_true rfl) (u := [.slice none 0 0, .int .i64 0, .int .i64 0, .slice none 0 0, .int .i64 0, str [], .int .i64 0, .int .i64 0, .slice none 0 0, .int .i64 0, .slice none 0 0, .int .u64 seen]) rfl) ?_; dsimp only [setD, List.set]
              refine r_v rfl rfl (x_move (v := .int .u64 now) rfl) ?_; dsimp only [setD, List.set]
              refine r_v rfl rfl (x_move (v := .int .u64 next) rfl) ?_; dsimp only [setD, List.set]
              refine r_v rfl rfl (x_max rfl rfl (max_if _ _)) ?_; dsimp only [setD, List.set]
              refine r_v rfl rfl (x_move (v := .int .u64 life) rfl) ?_; dsimp only [setD, List.set]
              refine r_call rfl rfl Try.call6 rfl (stale_any (now := max now next) (life := life) (seen := seen) (h0 := by omega) (h1 := by omega)) (fun v24 w24 hk24 hp24 => ?_)
              have hv24 := hp24; clear hp24
              replace hs := hs.call hk24; clear hk24
              subst hv24; dsimp only [setD, List.set]
              refine r_v rfl rfl (x_pickF (v := .bool (staleB seen (max now next) life)) rfl rfl) ?_; dsimp only [setD, List.set]
              refine r_v rfl rfl (x_pickT (v := .bool (staleB seen (max now next) life)) rfl rfl) ?_; dsimp only [setD, List.set]
              refine r_v rfl rfl (x_move (v := .bool (staleB seen (max now next) life)) rfl) ?_; dsimp only [setD, List.set]
              rcases Bool.eq_false_or_eq_true (staleB seen (max now next) life) with hb25 | hb25
              · first
                | (skip; exfalso; first | omega | (exact staleB_later (a := min now next) (b := max now next) (by omega) (by assumption) (by assumption)))
                | skip
                  rw [hb25]
                  refine r_v rfl rfl (x_loadA hs 0 rfl rfl Try.isAgg41 Try.sizeOf41 (Nat.le_of_ble_eq_true rfl) (u := [.slice none 0 0, .int .i64 0, .int .i64 0, .slice none 0 0, .int .i64 0, str [], .int .i64 0, .int .i64 0, .slice none 0 0, .int .i64 0, .slice none 0 0, .int .u64 seen]) rfl) ?_; dsimp only [setD, List.set]
                  refine r_v rfl rfl (x_move (v := .int .u64 seen) rfl) ?_; dsimp only [setD, List.set]
                  refine r_v rfl rfl (x_move (v := .int .u64 life) rfl) ?_; dsimp only [setD, List.set]
                  refine r_call rfl rfl Try.call6 rfl (stale_any (now := seen) (life := life) (seen := seen) (h0 := by omega) (h1 := by omega)) (fun v26 w26 hk26 hp26 => ?_)
                  have hv26 := hp26; clear hp26
                  replace hs := hs.call hk26; clear hk26
                  subst hv26; dsimp only [setD, List.set]
                  refine r_v rfl rfl (x_not rfl) ?_; dsimp only [setD, List.set]
                  refine r_v rfl rfl (x_pickT (v := .bool (!(staleB seen seen life))) rfl rfl) ?_; dsimp only [setD, List.set]
                  refine r_v rfl rfl (x_assign (v := .bool (!(staleB seen seen life))) rfl) ?_; dsimp only [setD, List.set]
                  refine o_nil (k21 _ _ ?_)
                  clear k21 K21
                  refine k20 _ _ ?_
                  clear k20 K20
                  refine c_ret ?_
                  change Ex Try.prog Try.f3 _ .ret _ _
                  refine ex_ret0 (results_by (rs := [.tmp 8]) (vs := [.bool (!(staleB seen seen life))]) rfl (rs_tmp rfl (rs_nil))) ⟨hs.kept, ?_⟩
                  first | rfl | (rw [show staleB seen seen life = false from staleB_no (by omega)]; rfl) | (exfalso; first | (simp_all; done) | (simp_all; omega))
              · first
                | (skip; exfalso; first | omega | (exact staleB_later (a := min now next) (b := max now next) (by omega) (by assumption) (by assumption)))
                | skip
                  rw [hb25]
                  refine r_skip rfl ?_; dsimp only [setD, List.set]
                  refine r_skip rfl ?_; dsimp only [setD, List.set]
                  refine r_skip rfl ?_; dsimp only [setD, List.set]
                  refine r_skip rfl ?_; dsimp only [setD, List.set]
                  refine r_skip rfl ?_; dsimp only [setD, List.set]
                  refine r_v rfl rfl (x_pickF (v := .bool false) rfl rfl) ?_; dsimp only [setD, List.set]
                  refine r_v rfl rfl (x_assign (v := .bool false) rfl) ?_; dsimp only [setD, List.set]
                  refine o_nil (k21 _ _ ?_)
                  clear k21 K21
                  refine k20 _ _ ?_
                  clear k20 K20
                  refine c_ret ?_
                  change Ex Try.prog Try.f3 _ .ret _ _
                  refine ex_ret0 (results_by (rs := [.tmp 8]) (vs := [.bool false]) rfl (rs_tmp rfl (rs_nil))) ⟨hs.kept, ?_⟩
                  first | rfl | (rw [show staleB seen seen life = false from staleB_no (by omega)]; rfl) | (exfalso; first | (simp_all; done) | (simp_all; omega))
          · first
            | (skip; exfalso; first | omega | (exact staleB_later (a := min now next) (b := max now next) (by omega) (by assumption) (by assumption)))
            | skip
              rw [hb23]
              refine r_skip rfl ?_; dsimp only [setD, List.set]
              refine r_skip rfl ?_; dsimp only [setD, List.set]
              refine r_skip rfl ?_; dsimp only [setD, List.set]
              refine r_skip rfl ?_; dsimp only [setD, List.set]
              refine r_skip rfl ?_; dsimp only [setD, List.set]
              refine r_skip rfl ?_; dsimp only [setD, List.set]
              refine r_v rfl rfl (x_pickT (v := .bool true) rfl rfl) ?_; dsimp only [setD, List.set]
              refine r_v rfl rfl (x_pickT (v := .bool true) rfl rfl) ?_; dsimp only [setD, List.set]
              refine r_v rfl rfl (x_move (v := .bool true) rfl) ?_; dsimp only [setD, List.set]
              refine r_v rfl rfl (x_loadA hs 0 rfl rfl Try.isAgg41 Try.sizeOf41 (Nat.le_of_ble_eq_true rfl) (u := [.slice none 0 0, .int .i64 0, .int .i64 0, .slice none 0 0, .int .i64 0, str [], .int .i64 0, .int .i64 0, .slice none 0 0, .int .i64 0, .slice none 0 0, .int .u64 seen]) rfl) ?_; dsimp only [setD, List.set]
              refine r_v rfl rfl (x_move (v := .int .u64 seen) rfl) ?_; dsimp only [setD, List.set]
              refine r_v rfl rfl (x_move (v := .int .u64 life) rfl) ?_; dsimp only [setD, List.set]
              refine r_call rfl rfl Try.call6 rfl (stale_any (now := seen) (life := life) (seen := seen) (h0 := by omega) (h1 := by omega)) (fun v27 w27 hk27 hp27 => ?_)
              have hv27 := hp27; clear hp27
              replace hs := hs.call hk27; clear hk27
              subst hv27; dsimp only [setD, List.set]
              refine r_v rfl rfl (x_not rfl) ?_; dsimp only [setD, List.set]
              refine r_v rfl rfl (x_pickT (v := .bool (!(staleB seen seen life))) rfl rfl) ?_; dsimp only [setD, List.set]
              refine r_v rfl rfl (x_assign (v := .bool (!(staleB seen seen life))) rfl) ?_; dsimp only [setD, List.set]
              refine o_nil (k21 _ _ ?_)
              clear k21 K21
              refine k20 _ _ ?_
              clear k20 K20
              refine c_ret ?_
              change Ex Try.prog Try.f3 _ .ret _ _
              refine ex_ret0 (results_by (rs := [.tmp 8]) (vs := [.bool (!(staleB seen seen life))]) rfl (rs_tmp rfl (rs_nil))) ⟨hs.kept, ?_⟩
              first | rfl | (rw [show staleB seen seen life = false from staleB_no (by omega)]; rfl) | (exfalso; first | (simp_all; done) | (simp_all; omega))
  · first
    | (have hc16 : true ≠ (decide (next ≥ now)) := beq_eq_false_iff_ne.1 hb16; exfalso; first | omega | (exact staleB_later (a := min now next) (b := max now next) (by omega) (by assumption) (by assumption)))
    | skip
      have hc16 : true ≠ (decide (next ≥ now)) := beq_eq_false_iff_ne.1 hb16
      rw [hb16]
      refine r_skip rfl ?_; dsimp only [setD, List.set]
      refine r_skip rfl ?_; dsimp only [setD, List.set]
      refine r_skip rfl ?_; dsimp only [setD, List.set]
      refine r_skip rfl ?_; dsimp only [setD, List.set]
      refine r_skip rfl ?_; dsimp only [setD, List.set]
      refine r_skip rfl ?_; dsimp only [setD, List.set]
      refine r_skip rfl ?_; dsimp only [setD, List.set]
      refine r_v rfl rfl (x_pickT (v := .bool true) rfl rfl) ?_; dsimp only [setD, List.set]
      refine o_nil (k15 _ _ ?_)
      clear k15 K15
      refine k14 _ _ ?_
      clear k14 K14
      refine c_true rfl ?_
      refine c_seq fun K28 k28 => ?_
      refine c_region fun K29 k29 => ?_
      refine r_v rfl rfl (x_assign (v := .bool false) rfl) ?_; dsimp only [setD, List.set]
      refine o_nil (k29 _ _ ?_)
      clear k29 K29
      refine k28 _ _ ?_
      clear k28 K28
      refine c_ret ?_
      change Ex Try.prog Try.f3 _ .ret _ _
      refine ex_ret0 (results_by (rs := [.tmp 8]) (vs := [.bool false]) rfl (rs_tmp rfl (rs_nil))) ⟨hs.kept, ?_⟩
      first | rfl | (rw [show staleB seen seen life = false from staleB_no (by omega)]; rfl) | (exfalso; first | (simp_all; done) | (simp_all; omega))
end Go.Proofs.Ytpdpajafaifcjaa
