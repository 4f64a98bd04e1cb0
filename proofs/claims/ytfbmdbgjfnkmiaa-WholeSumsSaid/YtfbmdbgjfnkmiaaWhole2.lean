/- The program's whole: what is told of one number, sums and products. -/
import Derived.Test.YtfbmdbgjfnkmiaaWhole1
set_option maxRecDepth 100000
set_option linter.unusedVariables false
set_option linter.unusedSimpArgs false
namespace Go.Proofs.Ytfbmdbgjfnkmiaa

/-- How two numbers stand to each other. -/
def cZ (a b : Int) : Int := if a < b then -1 else if a = b then 0 else 1
theorem cZ_lt {a b : Int} (h : a < b) : cZ a b = -1 := if_pos h
theorem cZ_eq {a b : Int} (h : a = b) : cZ a b = 0 := by unfold cZ; rw [if_neg (by omega), if_pos h]
theorem cZ_gt {a b : Int} (h : b < a) : cZ a b = 1 := by unfold cZ; rw [if_neg (by omega), if_neg (by omega)]

theorem wtrim_calls {b : Bool} {xs : List Nat} (h : Ok xs) : PW 30 [WX b xs] (WV b xs) := by
  refine PW.of b (V xs) ?_ rfl
  have ht' := trim_calls h
  have := h.short.len
  refine PCalls.enter (n := 9) (rs := [.cell 2 28]) (tb := [(1, [(0, []), (1, []), (2, []), (3, []), (4, [0, 1]), (5, []), (6, [])])]) Try.func30 rfl rfl rfl (by kernel_rfl) (by kernel_rfl) (by simp) fun c hc ht => ?_
  simp -implicitDefEqProofs (disch := omega) only [go_sem, ht, eq_self]
  (refine pCall_own1 (mk := fun p => p) (mk_id) (by simp -implicitDefEqProofs (disch := omega) only [go_sem, ht, eq_self] <;> rfl) (by simp -implicitDefEqProofs (disch := omega) only [go_sem, ht, eq_self]) (closedL_U _) (flatL_U _) (ht') ?_; intro id1 cap1 rest1 nx1 hid1 hnx1 hcap1; simp only [put_nx, withH_nx, begP_nx, List.length_map] at hid1 hcap1; simp -implicitDefEqProofs (disch := omega) only [go_sem, ht, eq_self])
  (apply pCall_mem; exact (made_own (by simp -implicitDefEqProofs (disch := omega) only [go_sem, ht, eq_self] <;> rfl)); rintro _ _ nx2 ⟨rfl, rfl⟩ hnx2; (try simp only [put_nx, withH_nx, begP_nx] at hnx2); simp -implicitDefEqProofs (disch := omega) only [go_sem, ht, eq_self])
  exact end_own1 (mk := fun p => .agg [.val (.bool (b && decide (0 < (D (V xs)).length))), p]) (by simp -implicitDefEqProofs (disch := omega) only [go_sem, ht, eq_self] <;> rfl) (by simp -implicitDefEqProofs (disch := omega) only [go_sem, ht, eq_self] <;> rfl) (by simp <;> omega) (by simp <;> omega)
theorem wneg_calls {b : Bool} {xs : List Nat} (h : Ok xs) : PW 25 [WX b xs] (-WV b xs) := by
  refine PW.of (!b) (V xs) ?_ (by cases b <;> simp [WV, sg])
  have ht' := trim_calls h
  have := h.short.len
  refine PCalls.enter (n := 10) (rs := [.cell 2 28]) (tb := [(1, [(0, []), (1, []), (2, []), (3, []), (4, []), (5, [0, 1, 2]), (6, []), (7, [])])]) Try.func25 rfl rfl rfl (by kernel_rfl) (by kernel_rfl) (by simp) fun c hc ht => ?_
  simp -implicitDefEqProofs (disch := omega) only [go_sem, ht, eq_self]
  (refine pCall_own1 (mk := fun p => p) (mk_id) (by simp -implicitDefEqProofs (disch := omega) only [go_sem, ht, eq_self] <;> rfl) (by simp -implicitDefEqProofs (disch := omega) only [go_sem, ht, eq_self]) (closedL_U _) (flatL_U _) (ht') ?_; intro id1 cap1 rest1 nx1 hid1 hnx1 hcap1; simp only [put_nx, withH_nx, begP_nx, List.length_map] at hid1 hcap1; simp -implicitDefEqProofs (disch := omega) only [go_sem, ht, eq_self])
  (apply pCall_mem; exact (made_own (by simp -implicitDefEqProofs (disch := omega) only [go_sem, ht, eq_self] <;> rfl)); rintro _ _ nx2 ⟨rfl, rfl⟩ hnx2; (try simp only [put_nx, withH_nx, begP_nx] at hnx2); simp -implicitDefEqProofs (disch := omega) only [go_sem, ht, eq_self])
  exact end_own1 (mk := fun p => .agg [.val (.bool (!b && decide (0 < (D (V xs)).length))), p]) (by simp -implicitDefEqProofs (disch := omega) only [go_sem, ht, eq_self] <;> rfl) (by simp -implicitDefEqProofs (disch := omega) only [go_sem, ht, eq_self] <;> rfl) (by simp <;> omega) (by simp <;> omega)
theorem wmul_calls {b d : Bool} {xs ys : List Nat} (hx : Ok xs) (hy : Ok ys) (hp : Ok (D (V xs * V ys))) : PW 31 [WX b xs, WX d ys] (WV b xs * WV d ys) := by
  refine PW.of (b != d) (V xs * V ys) ?_ (by cases b <;> cases d <;> simp [WV, sg, Int.mul_neg, Int.neg_mul])
  have ht' := mul_calls hx hy
  have := hp.len
  refine PCalls.enter (n := 16) (rs := [.cell 4 28]) (tb := [(1, [(0, []), (1, []), (2, []), (3, []), (4, []), (5, []), (6, []), (7, []), (8, []), (9, [0, 1, 2, 3, 4]), (10, []), (11, [])]), (1000001, [(0, []), (1, []), (0, []), (4, []), (15, []), (0, []), (32, []), (0, []), (128, []), (480, []), (1023, []), (2047, [])])]) Try.func31 rfl rfl rfl (by kernel_rfl) (by kernel_rfl) (by simp) fun c hc ht => ?_
  simp -implicitDefEqProofs (disch := omega) only [go_sem, ht, eq_self]
  (refine pCall_own1 (mk := fun p => p) (mk_id) (by simp -implicitDefEqProofs (disch := omega) only [go_sem, ht, eq_self] <;> rfl) (by simp -implicitDefEqProofs (disch := omega) only [go_sem, ht, eq_self]) (closedL_U _) (flatL_U _) (ht') ?_; intro id1 cap1 rest1 nx1 hid1 hnx1 hcap1; simp only [put_nx, withH_nx, begP_nx, List.length_map] at hid1 hcap1; simp -implicitDefEqProofs (disch := omega) only [go_sem, ht, eq_self])
  (apply pCall_mem; exact (made_own (by simp -implicitDefEqProofs (disch := omega) only [go_sem, ht, eq_self] <;> rfl)); rintro _ _ nx2 ⟨rfl, rfl⟩ hnx2; (try simp only [put_nx, withH_nx, begP_nx] at hnx2); simp -implicitDefEqProofs (disch := omega) only [go_sem, ht, eq_self])
  exact end_own1 (mk := fun p => .agg [.val (.bool ((b != d) && decide (0 < (D (V xs * V ys)).length))), p]) (by simp -implicitDefEqProofs (disch := omega) only [go_sem, ht, eq_self] <;> rfl) (by simp -implicitDefEqProofs (disch := omega) only [go_sem, ht, eq_self] <;> rfl) (by simp <;> omega) (by simp <;> omega)
theorem wgcd_calls {b d : Bool} {xs ys : List Nat} (hx : Ok xs) (hy : Ok ys) (hp : Ok (D (Nat.gcd (V xs) (V ys)))) : PW 47 [WX b xs, WX d ys] (Nat.gcd (V xs) (V ys) : Nat) := by
  refine PW.of false (Nat.gcd (V xs) (V ys)) ?_ rfl
  have ht' := gcd_calls hx hy
  have := hp.len
  refine PCalls.enter (n := 11) (rs := [.cell 4 28]) (tb := []) Try.func47 rfl rfl rfl (by kernel_rfl) (by kernel_rfl) (by simp) fun c hc ht => ?_
  simp -implicitDefEqProofs (disch := omega) only [go_sem, ht, eq_self]
  (refine pCall_own1 (mk := fun p => p) (mk_id) (by simp -implicitDefEqProofs (disch := omega) only [go_sem, ht, eq_self] <;> rfl) (by simp -implicitDefEqProofs (disch := omega) only [go_sem, ht, eq_self]) (closedL_U _) (flatL_U _) (ht') ?_; intro id1 cap1 rest1 nx1 hid1 hnx1 hcap1; simp only [put_nx, withH_nx, begP_nx, List.length_map] at hid1 hcap1; simp -implicitDefEqProofs (disch := omega) only [go_sem, ht, eq_self])
  (apply pCall_mem; exact (made_own (by simp -implicitDefEqProofs (disch := omega) only [go_sem, ht, eq_self] <;> rfl)); rintro _ _ nx2 ⟨rfl, rfl⟩ hnx2; (try simp only [put_nx, withH_nx, begP_nx] at hnx2); simp -implicitDefEqProofs (disch := omega) only [go_sem, ht, eq_self])
  exact end_own1 (mk := fun p => .agg [.val (.bool (false && decide (0 < (D (Nat.gcd (V xs) (V ys))).length))), p]) (by simp -implicitDefEqProofs (disch := omega) only [go_sem, ht, eq_self] <;> rfl) (by simp -implicitDefEqProofs (disch := omega) only [go_sem, ht, eq_self] <;> rfl) (by simp <;> omega) (by simp <;> omega)
theorem wof_calls {v : Int} (h0 : -9223372036854775808 ≤ v) (h1 : v ≤ 9223372036854775807) : PW 29 [.val (.int .i64 v)] v := by
  by_cases hn : v < 0
  · refine PW.of true v.natAbs ?_ (by simp only [sg, if_true]; omega)
    have ht' := small_calls (n := v.natAbs) (by omega)
    have e : (v.natAbs : Int) = 0 - (v + 1) + 1 := by omega
    rw [e] at ht'
    have hl : Ok (D v.natAbs) := .D (k := 2) (by omega) (by omega)
    have := hl.len
    refine PCalls.enter (n := 16) (rs := [.cell 2 28]) (tb := []) Try.func29 rfl rfl rfl (by kernel_rfl) (by kernel_rfl) (by simp) fun c hc ht => ?_
    simp -implicitDefEqProofs (disch := omega) only [go_sem, ht, eq_self]
    (refine pCall_own1 (mk := fun p => p) (mk_id) (by simp -implicitDefEqProofs (disch := omega) only [go_sem, ht, eq_self] <;> rfl) (by simp -implicitDefEqProofs (disch := omega) only [go_sem, ht, eq_self]) (closedL_U _) (flatL_U _) (ht') ?_; intro id1 cap1 rest1 nx1 hid1 hnx1 hcap1; simp only [put_nx, withH_nx, begP_nx, List.length_map] at hid1 hcap1; simp -implicitDefEqProofs (disch := omega) only [go_sem, ht, eq_self])
    (apply pCall_mem; exact (made_own (by simp -implicitDefEqProofs (disch := omega) only [go_sem, ht, eq_self] <;> rfl)); rintro _ _ nx2 ⟨rfl, rfl⟩ hnx2; (try simp only [put_nx, withH_nx, begP_nx] at hnx2); simp -implicitDefEqProofs (disch := omega) only [go_sem, ht, eq_self])
    exact end_own1 (mk := fun p => .agg [.val (.bool (true && decide (0 < (D v.natAbs).length))), p]) (by simp -implicitDefEqProofs (disch := omega) only [go_sem, ht, eq_self] <;> rfl) (by simp -implicitDefEqProofs (disch := omega) only [go_sem, ht, eq_self] <;> rfl) (by simp <;> omega) (by simp <;> omega)
  · refine PW.of false v.natAbs ?_ (by simp [sg]; omega)
    have ht' := small_calls (n := v.natAbs) (by omega)
    have e : (v.natAbs : Int) = v := by omega
    rw [e] at ht'
    have hl : Ok (D v.natAbs) := .D (k := 2) (by omega) (by omega)
    have := hl.len
    refine PCalls.enter (n := 16) (rs := [.cell 2 28]) (tb := []) Try.func29 rfl rfl rfl (by kernel_rfl) (by kernel_rfl) (by simp) fun c hc ht => ?_
    simp -implicitDefEqProofs (disch := omega) only [go_sem, ht, eq_self]
    (refine pCall_own1 (mk := fun p => p) (mk_id) (by simp -implicitDefEqProofs (disch := omega) only [go_sem, ht, eq_self] <;> rfl) (by simp -implicitDefEqProofs (disch := omega) only [go_sem, ht, eq_self]) (closedL_U _) (flatL_U _) (ht') ?_; intro id1 cap1 rest1 nx1 hid1 hnx1 hcap1; simp only [put_nx, withH_nx, begP_nx, List.length_map] at hid1 hcap1; simp -implicitDefEqProofs (disch := omega) only [go_sem, ht, eq_self])
    (apply pCall_mem; exact (made_own (by simp -implicitDefEqProofs (disch := omega) only [go_sem, ht, eq_self] <;> rfl)); rintro _ _ nx2 ⟨rfl, rfl⟩ hnx2; (try simp only [put_nx, withH_nx, begP_nx] at hnx2); simp -implicitDefEqProofs (disch := omega) only [go_sem, ht, eq_self])
    exact end_own1 (mk := fun p => .agg [.val (.bool (false && decide (0 < (D v.natAbs).length))), p]) (by simp -implicitDefEqProofs (disch := omega) only [go_sem, ht, eq_self] <;> rfl) (by simp -implicitDefEqProofs (disch := omega) only [go_sem, ht, eq_self] <;> rfl) (by simp <;> omega) (by simp <;> omega)
theorem wsign_calls {b : Bool} {xs : List Nat} (h : Ok xs) : PT Try.prog 27 [WX b xs] (isV (.val (.int .i64 (cZ (WV b xs) 0)))) := by
  have hb := bits_calls h
  by_cases h0 : V xs = 0
  · rw [h0, bl_zero] at hb
    rw [cZ_eq (by rw [WV, h0]; cases b <;> rfl)]
    refine PCalls.enter (n := 11) (rs := [.tmp 2]) (tb := []) Try.func27 rfl rfl rfl (by kernel_rfl) (by kernel_rfl) (by simp) fun c hc ht => ?_
    simp -implicitDefEqProofs (disch := omega) only [go_sem, ht, eq_self]
    (refine pCall_view (by simp -implicitDefEqProofs (disch := omega) only [go_sem, ht, eq_self] <;> rfl) (by simp -implicitDefEqProofs (disch := omega) only [go_sem, ht, eq_self]) (by first | (apply Or.inl; simp -implicitDefEqProofs (disch := omega) only [go_sem, ht, eq_self]; done) | (apply Or.inr; rintro r rfl; rfl)) (hb) ?_; rintro _ nx - rfl hnx; (try simp only [put_nx, withH_nx, begP_nx] at hnx); simp -implicitDefEqProofs (disch := omega) only [go_sem, ht, eq_self])
    (refine end_treeW 0 ?_; simp -implicitDefEqProofs (disch := omega) only [go_sem, ht, eq_self])
  · have hp := bl_pos' h0
    generalize bl (V xs) = k at *
    cases b
    · rw [cZ_gt (by simp [WV, sg]; omega)]
      refine PCalls.enter (n := 11) (rs := [.tmp 2]) (tb := []) Try.func27 rfl rfl rfl (by kernel_rfl) (by kernel_rfl) (by simp) fun c hc ht => ?_
      simp -implicitDefEqProofs (disch := omega) only [go_sem, ht, eq_self]
      (refine pCall_view (by simp -implicitDefEqProofs (disch := omega) only [go_sem, ht, eq_self] <;> rfl) (by simp -implicitDefEqProofs (disch := omega) only [go_sem, ht, eq_self]) (by first | (apply Or.inl; simp -implicitDefEqProofs (disch := omega) only [go_sem, ht, eq_self]; done) | (apply Or.inr; rintro r rfl; rfl)) (hb) ?_; rintro _ nx - rfl hnx; (try simp only [put_nx, withH_nx, begP_nx] at hnx); simp -implicitDefEqProofs (disch := omega) only [go_sem, ht, eq_self])
      (refine end_treeW 0 ?_; simp -implicitDefEqProofs (disch := omega) only [go_sem, ht, eq_self])
    · rw [cZ_lt (by simp [WV, sg]; omega)]
      refine PCalls.enter (n := 11) (rs := [.tmp 2]) (tb := []) Try.func27 rfl rfl rfl (by kernel_rfl) (by kernel_rfl) (by simp) fun c hc ht => ?_
      simp -implicitDefEqProofs (disch := omega) only [go_sem, ht, eq_self]
      (refine pCall_view (by simp -implicitDefEqProofs (disch := omega) only [go_sem, ht, eq_self] <;> rfl) (by simp -implicitDefEqProofs (disch := omega) only [go_sem, ht, eq_self]) (by first | (apply Or.inl; simp -implicitDefEqProofs (disch := omega) only [go_sem, ht, eq_self]; done) | (apply Or.inr; rintro r rfl; rfl)) (hb) ?_; rintro _ nx - rfl hnx; (try simp only [put_nx, withH_nx, begP_nx] at hnx); simp -implicitDefEqProofs (disch := omega) only [go_sem, ht, eq_self])
      (refine end_treeW 0 ?_; simp -implicitDefEqProofs (disch := omega) only [go_sem, ht, eq_self])
theorem wlimbs_calls {b : Bool} {xs : List Nat} (h : Ok xs) : PT Try.prog 35 [WX b xs] (isV (.val (.int .i64 ((bl (V xs) + 31) / 32 : Nat)))) := by
  have hb := bits_calls h
  have hk : bl (V xs) ≤ 35184372088832 := by
    have h1 := h.len
    have h2 : bl (V xs) ≤ 32 * xs.length := bl_le.2 (by rw [← pow32]; exact V_lt h.lm)
    omega
  generalize bl (V xs) = k at *
  refine PCalls.enter (n := 8) (rs := [.tmp 2]) (tb := []) Try.func35 rfl rfl rfl (by kernel_rfl) (by kernel_rfl) (by simp) fun c hc ht => ?_
  simp -implicitDefEqProofs (disch := omega) only [go_sem, ht, eq_self]
  (refine pCall_view (by simp -implicitDefEqProofs (disch := omega) only [go_sem, ht, eq_self] <;> rfl) (by simp -implicitDefEqProofs (disch := omega) only [go_sem, ht, eq_self]) (by first | (apply Or.inl; simp -implicitDefEqProofs (disch := omega) only [go_sem, ht, eq_self]; done) | (apply Or.inr; rintro r rfl; rfl)) (hb) ?_; rintro _ nx - rfl hnx; (try simp only [put_nx, withH_nx, begP_nx] at hnx); simp -implicitDefEqProofs (disch := omega) only [go_sem, ht, eq_self])
  (refine end_treeW 0 ?_; simp -implicitDefEqProofs (disch := omega) only [go_sem, ht, eq_self])
end Go.Proofs.Ytfbmdbgjfnkmiaa
