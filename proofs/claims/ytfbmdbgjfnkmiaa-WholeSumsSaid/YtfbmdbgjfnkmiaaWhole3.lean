/- The program's whole: how two numbers stand to each other, their sums, their quotients. -/
import Derived.Test.YtfbmdbgjfnkmiaaWhole2
set_option maxRecDepth 100000
set_option linter.unusedVariables false
set_option linter.unusedSimpArgs false
namespace Go.Proofs.Ytfbmdbgjfnkmiaa

theorem cZ_nat (a b : Nat) : cmpI a b = cZ a b := by
  rcases Nat.lt_trichotomy a b with h | h | h
  · rw [cmpI_lt h, cZ_lt (by omega)]
  · rw [cmpI_eq h, cZ_eq (by omega)]
  · rw [cmpI_gt h, cZ_gt (by omega)]
theorem wcmp_calls {b d : Bool} {xs ys : List Nat} (hx : Ok xs) (hy : Ok ys) : PT Try.prog 24 [WX b xs, WX d ys] (isV (.val (.int .i64 (cZ (WV b xs) (WV d ys))))) := by
  have sx := wsign_calls (b := b) hx
  have sy := wsign_calls (b := d) hy
  have cxy := cmp_calls hx hy
  have cyx := cmp_calls hy hx
  have ex : WV b xs = if b then -(V xs : Int) else V xs := rfl
  have ey : WV d ys = if d then -(V ys : Int) else V ys := rfl
  rw [cZ_nat] at cxy cyx
  generalize WV b xs = x at *
  generalize WV d ys = y at *
  by_cases h1 : cZ x 0 < cZ y 0
  · have : cZ x y = -1 := by
      refine cZ_lt ?_
      unfold cZ at h1
      split at h1 <;> split at h1 <;> (try split at h1) <;> (try split at h1) <;> omega
    rw [this]
    generalize cZ x 0 = k at *
    generalize cZ y 0 = m at *
    refine PCalls.enter (n := 32) (rs := [.tmp 4]) (tb := [(1, [(0, []), (2, []), (1, [2]), (3, []), (4, []), (5, [])])]) Try.func24 rfl rfl rfl (by kernel_rfl) (by kernel_rfl) (by simp) fun c hc ht => ?_
    simp -implicitDefEqProofs (disch := omega) only [go_sem, ht, eq_self]
    (refine pCall_view (by simp -implicitDefEqProofs (disch := omega) only [go_sem, ht, eq_self] <;> rfl) (by simp -implicitDefEqProofs (disch := omega) only [go_sem, ht, eq_self]) (by first | (apply Or.inl; simp -implicitDefEqProofs (disch := omega) only [go_sem, ht, eq_self]; done) | (apply Or.inr; rintro r rfl; rfl)) (sx) ?_; rintro _ nx - rfl hnx; (try simp only [put_nx, withH_nx, begP_nx] at hnx); simp -implicitDefEqProofs (disch := omega) only [go_sem, ht, eq_self])
    (refine pCall_view (by simp -implicitDefEqProofs (disch := omega) only [go_sem, ht, eq_self] <;> rfl) (by simp -implicitDefEqProofs (disch := omega) only [go_sem, ht, eq_self]) (by first | (apply Or.inl; simp -implicitDefEqProofs (disch := omega) only [go_sem, ht, eq_self]; done) | (apply Or.inr; rintro r rfl; rfl)) (sy) ?_; rintro _ nx - rfl hnx; (try simp only [put_nx, withH_nx, begP_nx] at hnx); simp -implicitDefEqProofs (disch := omega) only [go_sem, ht, eq_self])
    (refine end_treeW 0 ?_; simp -implicitDefEqProofs (disch := omega) only [go_sem, ht, eq_self])
  by_cases h2 : cZ y 0 < cZ x 0
  · have : cZ x y = 1 := by
      refine cZ_gt ?_
      unfold cZ at h2
      split at h2 <;> split at h2 <;> (try split at h2) <;> (try split at h2) <;> omega
    rw [this]
    generalize cZ x 0 = k at *
    generalize cZ y 0 = m at *
    refine PCalls.enter (n := 32) (rs := [.tmp 4]) (tb := [(1, [(0, []), (2, []), (1, [2]), (3, []), (4, []), (5, [])])]) Try.func24 rfl rfl rfl (by kernel_rfl) (by kernel_rfl) (by simp) fun c hc ht => ?_
    simp -implicitDefEqProofs (disch := omega) only [go_sem, ht, eq_self]
    (refine pCall_view (by simp -implicitDefEqProofs (disch := omega) only [go_sem, ht, eq_self] <;> rfl) (by simp -implicitDefEqProofs (disch := omega) only [go_sem, ht, eq_self]) (by first | (apply Or.inl; simp -implicitDefEqProofs (disch := omega) only [go_sem, ht, eq_self]; done) | (apply Or.inr; rintro r rfl; rfl)) (sx) ?_; rintro _ nx - rfl hnx; (try simp only [put_nx, withH_nx, begP_nx] at hnx); simp -implicitDefEqProofs (disch := omega) only [go_sem, ht, eq_self])
    (refine pCall_view (by simp -implicitDefEqProofs (disch := omega) only [go_sem, ht, eq_self] <;> rfl) (by simp -implicitDefEqProofs (disch := omega) only [go_sem, ht, eq_self]) (by first | (apply Or.inl; simp -implicitDefEqProofs (disch := omega) only [go_sem, ht, eq_self]; done) | (apply Or.inr; rintro r rfl; rfl)) (sy) ?_; rintro _ nx - rfl hnx; (try simp only [put_nx, withH_nx, begP_nx] at hnx); simp -implicitDefEqProofs (disch := omega) only [go_sem, ht, eq_self])
    (refine end_treeW 0 ?_; simp -implicitDefEqProofs (disch := omega) only [go_sem, ht, eq_self])
  by_cases h3 : x < 0
  · have hy0 : y < 0 := by
      rw [cZ_lt h3] at h1 h2
      unfold cZ at h1 h2
      split at h1 <;> omega
    have : cZ x y = cZ (V ys : Int) (V xs : Int) := by
      have e1 : x = -V xs := by cases b <;> simp at ex <;> omega
      have e2 : y = -V ys := by cases d <;> simp at ey <;> omega
      rcases Int.lt_trichotomy x y with h | h | h
      · rw [cZ_lt h, cZ_lt (by omega)]
      · rw [cZ_eq h, cZ_eq (by omega)]
      · rw [cZ_gt h, cZ_gt (by omega)]
    rw [this]
    rw [cZ_lt h3] at sx
    rw [cZ_lt hy0] at sy
    generalize cZ (V ys : Int) (V xs : Int) = k at *
    refine PCalls.enter (n := 32) (rs := [.tmp 4]) (tb := [(1, [(0, []), (2, []), (1, [2]), (3, []), (4, []), (5, [])])]) Try.func24 rfl rfl rfl (by kernel_rfl) (by kernel_rfl) (by simp) fun c hc ht => ?_
    simp -implicitDefEqProofs (disch := omega) only [go_sem, ht, eq_self]
    (refine pCall_view (by simp -implicitDefEqProofs (disch := omega) only [go_sem, ht, eq_self] <;> rfl) (by simp -implicitDefEqProofs (disch := omega) only [go_sem, ht, eq_self]) (by first | (apply Or.inl; simp -implicitDefEqProofs (disch := omega) only [go_sem, ht, eq_self]; done) | (apply Or.inr; rintro r rfl; rfl)) (sx) ?_; rintro _ nx - rfl hnx; (try simp only [put_nx, withH_nx, begP_nx] at hnx); simp -implicitDefEqProofs (disch := omega) only [go_sem, ht, eq_self])
    (refine pCall_view (by simp -implicitDefEqProofs (disch := omega) only [go_sem, ht, eq_self] <;> rfl) (by simp -implicitDefEqProofs (disch := omega) only [go_sem, ht, eq_self]) (by first | (apply Or.inl; simp -implicitDefEqProofs (disch := omega) only [go_sem, ht, eq_self]; done) | (apply Or.inr; rintro r rfl; rfl)) (sy) ?_; rintro _ nx - rfl hnx; (try simp only [put_nx, withH_nx, begP_nx] at hnx); simp -implicitDefEqProofs (disch := omega) only [go_sem, ht, eq_self])
    (refine pCall_view (by simp -implicitDefEqProofs (disch := omega) only [go_sem, ht, eq_self] <;> rfl) (by simp -implicitDefEqProofs (disch := omega) only [go_sem, ht, eq_self]) (by first | (apply Or.inl; simp -implicitDefEqProofs (disch := omega) only [go_sem, ht, eq_self]; done) | (apply Or.inr; rintro r rfl; rfl)) (cyx) ?_; rintro _ nx - rfl hnx; (try simp only [put_nx, withH_nx, begP_nx] at hnx); simp -implicitDefEqProofs (disch := omega) only [go_sem, ht, eq_self])
    (refine end_treeW 0 ?_; simp -implicitDefEqProofs (disch := omega) only [go_sem, ht, eq_self])
  · have hk : ¬ cZ x 0 < 0 := by unfold cZ; split <;> (try split) <;> omega
    have he : cZ x 0 = cZ y 0 := by omega
    have : cZ x y = cZ (V xs : Int) (V ys : Int) := by
      have hy0 : ¬ y < 0 := fun h => by rw [cZ_lt h] at he; omega
      have e1 : x = V xs := by cases b <;> simp at ex <;> omega
      have e2 : y = V ys := by cases d <;> simp at ey <;> omega
      rw [e1, e2]
    rw [this]
    rw [← he] at sy
    generalize cZ (V xs : Int) (V ys : Int) = k at *
    generalize cZ x 0 = m at *
    refine PCalls.enter (n := 32) (rs := [.tmp 4]) (tb := [(1, [(0, []), (2, []), (1, [2]), (3, []), (4, []), (5, [])])]) Try.func24 rfl rfl rfl (by kernel_rfl) (by kernel_rfl) (by simp) fun c hc ht => ?_
    simp -implicitDefEqProofs (disch := omega) only [go_sem, ht, eq_self]
    (refine pCall_view (by simp -implicitDefEqProofs (disch := omega) only [go_sem, ht, eq_self] <;> rfl) (by simp -implicitDefEqProofs (disch := omega) only [go_sem, ht, eq_self]) (by first | (apply Or.inl; simp -implicitDefEqProofs (disch := omega) only [go_sem, ht, eq_self]; done) | (apply Or.inr; rintro r rfl; rfl)) (sx) ?_; rintro _ nx - rfl hnx; (try simp only [put_nx, withH_nx, begP_nx] at hnx); simp -implicitDefEqProofs (disch := omega) only [go_sem, ht, eq_self])
    (refine pCall_view (by simp -implicitDefEqProofs (disch := omega) only [go_sem, ht, eq_self] <;> rfl) (by simp -implicitDefEqProofs (disch := omega) only [go_sem, ht, eq_self]) (by first | (apply Or.inl; simp -implicitDefEqProofs (disch := omega) only [go_sem, ht, eq_self]; done) | (apply Or.inr; rintro r rfl; rfl)) (sy) ?_; rintro _ nx - rfl hnx; (try simp only [put_nx, withH_nx, begP_nx] at hnx); simp -implicitDefEqProofs (disch := omega) only [go_sem, ht, eq_self])
    (refine pCall_view (by simp -implicitDefEqProofs (disch := omega) only [go_sem, ht, eq_self] <;> rfl) (by simp -implicitDefEqProofs (disch := omega) only [go_sem, ht, eq_self]) (by first | (apply Or.inl; simp -implicitDefEqProofs (disch := omega) only [go_sem, ht, eq_self]; done) | (apply Or.inr; rintro r rfl; rfl)) (cxy) ?_; rintro _ nx - rfl hnx; (try simp only [put_nx, withH_nx, begP_nx] at hnx); simp -implicitDefEqProofs (disch := omega) only [go_sem, ht, eq_self])
    (refine end_treeW 0 ?_; simp -implicitDefEqProofs (disch := omega) only [go_sem, ht, eq_self])

theorem wadd_calls {b d : Bool} {xs ys : List Nat} (hx : Ok xs) (hy : Ok ys) (hp : Ok (D (V xs + V ys))) : PW 26 [WX b xs, WX d ys] (WV b xs + WV d ys) := by
  by_cases hbd : b = d
  · subst hbd
    refine PW.of b (V xs + V ys) ?_ (by cases b <;> simp [WV, sg]; omega)
    have ht' := add_calls hx hy
    have := hp.len
    refine PCalls.enter (n := 47) (rs := [.cell 4 28]) (tb := [(2, [(0, []), (1, []), (2, []), (3, []), (4, []), (5, []), (6, [0, 1]), (7, []), (8, [])])]) Try.func26 rfl rfl rfl (by kernel_rfl) (by kernel_rfl) (by simp) fun c hc ht => ?_
    simp -implicitDefEqProofs (disch := omega) only [go_sem, ht, eq_self]
    (refine pCall_own1 (mk := fun p => p) (mk_id) (by simp -implicitDefEqProofs (disch := omega) only [go_sem, ht, eq_self] <;> rfl) (by simp -implicitDefEqProofs (disch := omega) only [go_sem, ht, eq_self]) (closedL_U _) (flatL_U _) (ht') ?_; intro id1 cap1 rest1 nx1 hid1 hnx1 hcap1; simp only [put_nx, withH_nx, begP_nx, List.length_map] at hid1 hcap1; simp -implicitDefEqProofs (disch := omega) only [go_sem, ht, eq_self])
    (apply pCall_mem; exact (made_own (by simp -implicitDefEqProofs (disch := omega) only [go_sem, ht, eq_self] <;> rfl)); rintro _ _ nx2 ⟨rfl, rfl⟩ hnx2; (try simp only [put_nx, withH_nx, begP_nx] at hnx2); simp -implicitDefEqProofs (disch := omega) only [go_sem, ht, eq_self])
    exact end_own1 (mk := fun p => .agg [.val (.bool (b && decide (0 < (D (V xs + V ys)).length))), p]) (by simp -implicitDefEqProofs (disch := omega) only [go_sem, ht, eq_self] <;> rfl) (by simp -implicitDefEqProofs (disch := omega) only [go_sem, ht, eq_self] <;> rfl) (by simp <;> omega) (by simp <;> omega)
  · have hbd' : (b == d) = false := by simpa using hbd
    have ht' := sub_calls hx hy
    have l1 := (Ok_le hx.short (Nat.sub_le (V xs) (V ys))).len
    by_cases hle : V ys ≤ V xs
    · refine PW.of b (V xs - V ys) ?_ (by cases b <;> cases d <;> simp [WV, sg] at * <;> omega)
      rw [decide_eq_true hle] at ht'
      refine PCalls.enter (n := 47) (rs := [.cell 4 28]) (tb := [(2, [(0, []), (1, []), (2, []), (3, []), (4, []), (5, []), (6, [0, 1]), (7, []), (8, [])])]) Try.func26 rfl rfl rfl (by kernel_rfl) (by kernel_rfl) (by simp) fun c hc ht => ?_
      simp -implicitDefEqProofs (disch := omega) only [go_sem, ht, hbd', eq_self]
      (refine pCall_own1 (mk := fun p => .tup [p, .val (.bool true)]) (mk_b _) (by simp -implicitDefEqProofs (disch := omega) only [go_sem, ht, eq_self] <;> rfl) (by simp -implicitDefEqProofs (disch := omega) only [go_sem, ht, eq_self]) (closedL_U _) (flatL_U _) (ht') ?_; intro id1 cap1 rest1 nx1 hid1 hnx1 hcap1; simp only [put_nx, withH_nx, begP_nx, List.length_map] at hid1 hcap1; simp -implicitDefEqProofs (disch := omega) only [go_sem, ht, eq_self])
      (apply pCall_mem; exact (made_own (by simp -implicitDefEqProofs (disch := omega) only [go_sem, ht, eq_self] <;> rfl)); rintro _ _ nx2 ⟨rfl, rfl⟩ hnx2; (try simp only [put_nx, withH_nx, begP_nx] at hnx2); simp -implicitDefEqProofs (disch := omega) only [go_sem, ht, eq_self])
      exact end_own1 (mk := fun p => .agg [.val (.bool (b && decide (0 < (D (V xs - V ys)).length))), p]) (by simp -implicitDefEqProofs (disch := omega) only [go_sem, ht, eq_self] <;> rfl) (by simp -implicitDefEqProofs (disch := omega) only [go_sem, ht, eq_self] <;> rfl) (by simp <;> omega) (by simp <;> omega)
    · refine PW.of d (V ys - V xs) ?_ (by cases b <;> cases d <;> simp [WV, sg] at * <;> omega)
      have ht2 := sub_calls hy hx
      have l2 := (Ok_le hy.short (Nat.sub_le (V ys) (V xs))).len
      have ht3 := sub_tree hx hy
      rw [decide_eq_false hle] at ht3
      refine PCalls.enter (n := 47) (rs := [.cell 4 28]) (tb := [(2, [(0, []), (1, []), (2, []), (3, []), (4, []), (5, []), (6, [0, 1]), (7, []), (8, [])])]) Try.func26 rfl rfl rfl (by kernel_rfl) (by kernel_rfl) (by simp) fun c hc ht => ?_
      simp -implicitDefEqProofs (disch := omega) only [go_sem, ht, hbd', eq_self]
      (refine pCall_view (by simp -implicitDefEqProofs (disch := omega) only [go_sem, ht, eq_self] <;> rfl) (by simp -implicitDefEqProofs (disch := omega) only [go_sem, ht, eq_self]) (by first | (apply Or.inl; simp -implicitDefEqProofs (disch := omega) only [go_sem, ht, eq_self]; done) | (apply Or.inr; rintro r rfl; rfl)) (ht3) ?_; rintro _ nx - rfl hnx; (try simp only [put_nx, withH_nx, begP_nx] at hnx); simp -implicitDefEqProofs (disch := omega) only [go_sem, ht, eq_self])
      generalize nx = n0 at *
      (refine pCall_own1 (mk := fun p => .tup [p, .val (.bool (decide (V xs ≤ V ys)))]) (mk_b _) (by simp -implicitDefEqProofs (disch := omega) only [go_sem, ht, eq_self] <;> rfl) (by simp -implicitDefEqProofs (disch := omega) only [go_sem, ht, eq_self]) (closedL_U _) (flatL_U _) (ht2) ?_; intro id1 cap1 rest1 nx1 hid1 hnx1 hcap1; simp only [put_nx, withH_nx, begP_nx, List.length_map] at hid1 hcap1; simp -implicitDefEqProofs (disch := omega) only [go_sem, ht, eq_self])
      (apply pCall_mem; exact (made_own (by simp -implicitDefEqProofs (disch := omega) only [go_sem, ht, eq_self] <;> rfl)); rintro _ _ nx2 ⟨rfl, rfl⟩ hnx2; (try simp only [put_nx, withH_nx, begP_nx] at hnx2); simp -implicitDefEqProofs (disch := omega) only [go_sem, ht, eq_self])
      exact end_own1 (mk := fun p => .agg [.val (.bool (d && decide (0 < (D (V ys - V xs)).length))), p]) (by simp -implicitDefEqProofs (disch := omega) only [go_sem, ht, eq_self] <;> rfl) (by simp -implicitDefEqProofs (disch := omega) only [go_sem, ht, eq_self] <;> rfl) (by simp <;> omega) (by simp <;> omega)
theorem wsub_calls {b d : Bool} {xs ys : List Nat} (hx : Ok xs) (hy : Ok ys) (hp : Ok (D (V xs + V ys))) : PW 28 [WX b xs, WX d ys] (WV b xs - WV d ys) := by
  have e : WV b xs - WV d ys = WV b xs + WV (!d) ys := by cases d <;> simp [WV, sg] <;> omega
  rw [e]
  have ht' := wadd_calls (b := b) (d := !d) hx hy hp
  generalize WV b xs + WV (!d) ys = z at *
  have hz : Ok (D z.natAbs) ∨ True := .inr trivial
  refine PCalls.enter (n := 12) (rs := [.cell 4 28]) (tb := []) Try.func28 rfl rfl rfl (by kernel_rfl) (by kernel_rfl) (by simp) fun c hc ht => ?_
  simp -implicitDefEqProofs (disch := omega) only [go_sem, ht, eq_self]
  (refine pCall_own1 (mk := mkW z) (mk_W z) (by simp -implicitDefEqProofs (disch := omega) only [go_sem, ht, eq_self] <;> rfl) (by simp -implicitDefEqProofs (disch := omega) only [go_sem, ht, eq_self]) (closedL_U _) (flatL_U _) (ht') ?_; intro id1 cap1 rest1 nx1 hid1 hnx1 hcap1; simp only [put_nx, withH_nx, begP_nx, List.length_map] at hid1 hcap1; simp -implicitDefEqProofs (disch := omega) only [go_sem, ht, eq_self])
  exact end_own1 (mk := mkW z) (by simp -implicitDefEqProofs (disch := omega) only [go_sem, ht, eq_self] <;> rfl) (by simp -implicitDefEqProofs (disch := omega) only [go_sem, ht, eq_self] <;> rfl) (by simp <;> omega) (by simp <;> omega)
end Go.Proofs.Ytfbmdbgjfnkmiaa
