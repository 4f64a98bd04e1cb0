/- The program's whole: quotients and rests. -/
import Derived.Test.YtfbmdbgjfnkmiaaWhole4
set_option maxRecDepth 100000
set_option linter.unusedVariables false
set_option linter.unusedSimpArgs false
namespace Go.Proofs.Ytfbmdbgjfnkmiaa

theorem ediv_of {x y q r : Int} (h : r + y * q = x) (h0 : 0 ≤ r) (h1 : r < y.natAbs) : x / y = q ∧ x % y = r := by
  rcases Int.lt_trichotomy y 0 with hy | hy | hy
  · have h2 := (Int.ediv_emod_unique (a := x) (b := -y) (r := r) (q := -q) (by omega)).2 ⟨by rw [Int.neg_mul_neg]; exact h, h0, by omega⟩
    rw [Int.ediv_neg, Int.emod_neg] at h2
    exact ⟨by omega, h2.2⟩
  · subst hy; omega
  · exact (Int.ediv_emod_unique hy).2 ⟨h, h0, by omega⟩
/-- How the quotient goes with signs. -/
theorem sg_div {b d : Bool} {m n : Nat} (hn : n ≠ 0) :
    (sg b (m % n) < 0 → (sg d n < 0 → sg b m / sg d n = sg (b != d) (m / n) + 1 ∧ sg b m % sg d n = sg b (m % n) - sg d n) ∧ (¬ sg d n < 0 → sg b m / sg d n = sg (b != d) (m / n) - 1 ∧ sg b m % sg d n = sg b (m % n) + sg d n)) ∧
    (¬ sg b (m % n) < 0 → sg b m / sg d n = sg (b != d) (m / n) ∧ sg b m % sg d n = sg b (m % n)) := by
  have e : ((m % n : Nat) : Int) + n * (m / n : Nat) = m := by exact_mod_cast Nat.mod_add_div m n
  have hr : m % n < n := Nat.mod_lt _ (Nat.pos_of_ne_zero hn)
  generalize m / n = q at *
  generalize m % n = r at *
  refine ⟨fun h => ⟨fun h' => ediv_of ?_ ?_ ?_, fun h' => ediv_of ?_ ?_ ?_⟩, fun h => ediv_of ?_ ?_ ?_⟩ <;> cases b <;> cases d <;> simp [sg] at * <;> (try omega) <;> (try simp only [Int.mul_add, Int.mul_sub, Int.mul_neg, Int.neg_mul, Int.neg_neg, Int.mul_one]) <;> omega
theorem sg_Ok {b : Bool} {n : Nat} (h : Ok (D n)) : Ok (D (sg b n).natAbs) := by rw [sg_abs]; exact h
theorem Ok1 : Ok (D 1) := .D (k := 1) (by omega) (by omega)
theorem Ok_add {a b k : Nat} (ha : Ok (D a)) (h : (D a).length ≤ k) (hb : (D b).length ≤ k) (hk : k < 1099511627776) : Ok (D (a + b)) := by
  refine .D (k := k + 1) ?_ (by omega)
  exact lt_add (D_len_le.1 h) (D_len_le.1 hb)
theorem wadd_v {b d : Bool} {xs ys : List Nat} {x y : Int} (hx : Ok xs) (hy : Ok ys) (hp : Ok (D (V xs + V ys))) (ex : WV b xs = x) (ey : WV d ys = y) : PT Try.prog 26 [WX b xs, WX d ys] (isV (WC (x + y))) := by
  subst ex ey; exact PWtree (wadd_calls hx hy hp)
theorem wsub_v {b d : Bool} {xs ys : List Nat} {x y : Int} (hx : Ok xs) (hy : Ok ys) (hp : Ok (D (V xs + V ys))) (ex : WV b xs = x) (ey : WV d ys = y) : PT Try.prog 28 [WX b xs, WX d ys] (isV (WC (x - y))) := by
  subst ex ey; exact PWtree (wsub_calls hx hy hp)
theorem made_v {b : Bool} {n : Nat} (hn : Ok (D n)) : PT Try.prog 63 [.val (.bool b), SU (D n)] (isV (WC (sg b n))) := by
  have := made_calls (b := b) hn.len
  rw [← sg_neg] at this
  rwa [WC, sg_abs]
theorem wdivmod_z {b d : Bool} {xs ys : List Nat} (hx : Ok xs) (hy : Ok ys) (h0 : V ys = 0) : PT Try.prog 46 [WX b xs, WX d ys] (isV (.tup [WC 0, WC 0, .val (.bool false)])) := by
  have hd := divmod_z hx hy h0
  have e0 : WC 0 = .agg [.val (.bool false), .sl 0 []] := by rw [WC_def, SU_def]; simp [D_zero]
  rw [e0]
  refine PCalls.enter (n := 55) (rs := [.cell 4 28, .cell 5 28, .tmp 6]) (tb := [(4, [(0, []), (1, []), (2, []), (3, []), (4, []), (5, []), (7, []), (8, []), (9, []), (6, [7, 8, 9]), (10, []), (11, []), (12, [])]), (1000004, [(0, []), (1, []), (0, []), (4, []), (15, []), (0, []), (63, []), (0, []), (128, []), (0, []), (1023, []), (2047, []), (4095, [])]), (6, [(0, []), (1, []), (2, [1]), (3, []), (4, [])]), (9, [(0, []), (1, []), (3, []), (4, []), (2, [3, 4]), (5, []), (6, []), (7, []), (8, [])]), (10, [(0, []), (1, []), (3, []), (4, []), (2, [3, 4]), (5, []), (6, []), (7, []), (8, [])])]) Try.func46 rfl rfl rfl (by kernel_rfl) (by kernel_rfl) (by simp) fun c hc ht => ?_
  simp -implicitDefEqProofs (disch := omega) only [go_sem, ht, eq_self]
  (refine pCall_view (by simp -implicitDefEqProofs (disch := omega) only [go_sem, ht, eq_self] <;> rfl) (by simp -implicitDefEqProofs (disch := omega) only [go_sem, ht, eq_self]) (by first | (apply Or.inl; simp -implicitDefEqProofs (disch := omega) only [go_sem, ht, eq_self]; done) | (apply Or.inr; rintro r rfl; rfl)) (hd) ?_; rintro _ nx - rfl hnx; (try simp only [put_nx, withH_nx, begP_nx] at hnx); simp -implicitDefEqProofs (disch := omega) only [go_sem, ht, eq_self])
  (refine end_treeM 2 ?_; simp -implicitDefEqProofs (disch := omega) only [go_sem, ht, eq_self])
theorem wdivmod_calls {b d : Bool} {xs ys : List Nat} (hx : Ok xs) (hy : Ok ys) (h0 : V ys ≠ 0) (hxl : xs.length < 1099511627776) (hyl : ys.length < 1099511627776) :
    PT Try.prog 46 [WX b xs, WX d ys] (isV (.tup [WC (WV b xs / WV d ys), WC (WV b xs % WV d ys), .val (.bool true)])) := by
  have hd := divmod_v hx hy rfl rfl h0
  have hsg := sg_div (b := b) (d := d) (m := V xs) h0
  have hs := wsign_calls (b := d) hy
  have hq : Ok (D (V xs / V ys)) := Ok_le hx.short (Nat.div_le_self _ _)
  have hr : Ok (D (V xs % V ys)) := Ok_le hx.short (Nat.mod_le _ _)
  have ma := made_v (b := b != d) hq
  have mb := made_v (b := b) hr
  unfold WV at *
  by_cases hneg : sg b (V xs % V ys) < 0
  · obtain ⟨g1, g2⟩ := hsg.1 hneg
    have hof := PWtree (wof_calls (v := 1) (by omega) (by omega))
    have lq := Nat.le_trans (D_len_mono (Nat.div_le_self (V xs) (V ys))) (D_len_V hx.lm)
    have lr := Nat.le_trans (D_len_mono (Nat.le_of_lt (Nat.mod_lt (V xs) (Nat.pos_of_ne_zero h0)))) (D_len_V hy.lm)
    have l1 : (D 1).length = 1 := by rw [D_one (by omega) (by omega)]; rfl
    have oq : Ok (D (V xs / V ys + 1)) := by
      by_cases hz : xs.length = 0
      · refine Ok_add (k := 1) hq (by omega) (by omega) (by omega)
      · exact Ok_add (k := xs.length) hq lq (by omega) hxl
    have or' : Ok (D (V xs % V ys + V ys)) := Ok_add (k := ys.length) hr lr (D_len_V hy.lm) hyl
    by_cases hd0 : sg d (V ys) < 0
    · obtain ⟨g3, g4⟩ := g1 hd0
      rw [g3, g4]
      rw [cZ_lt hd0] at hs
      have A := wadd_v (x := sg (b != d) (V xs / V ys)) (y := 1) (sg_Ok hq) Ok1 (by rw [V_D, V_D, sg_abs]; exact oq) (WV_C _) (WV_C 1)
      have S := wsub_v (x := sg b (V xs % V ys)) (d := d) (sg_Ok hr) hy (by rw [V_D, sg_abs]; exact or') (WV_C _) rfl
      unfold WV at S
      clear g1 g2 g3 g4 hsg
      generalize sg (b != d) (V xs / V ys) + 1 = qq at *
      generalize sg b (V xs % V ys) - sg d (V ys) = rr at *
      generalize sg (b != d) (V xs / V ys) = q at *
      generalize sg b (V xs % V ys) = r at *
      have hneg' := decide_eq_true hneg
      refine PCalls.enter (n := 55) (rs := [.cell 4 28, .cell 5 28, .tmp 6]) (tb := [(4, [(0, []), (1, []), (2, []), (3, []), (4, []), (5, []), (7, []), (8, []), (9, []), (6, [7, 8, 9]), (10, []), (11, []), (12, [])]), (1000004, [(0, []), (1, []), (0, []), (4, []), (15, []), (0, []), (63, []), (0, []), (128, []), (0, []), (1023, []), (2047, []), (4095, [])]), (6, [(0, []), (1, []), (2, [1]), (3, []), (4, [])]), (9, [(0, []), (1, []), (3, []), (4, []), (2, [3, 4]), (5, []), (6, []), (7, []), (8, [])]), (10, [(0, []), (1, []), (3, []), (4, []), (2, [3, 4]), (5, []), (6, []), (7, []), (8, [])])]) Try.func46 rfl rfl rfl (by kernel_rfl) (by kernel_rfl) (by simp) fun c hc ht => ?_
      simp -implicitDefEqProofs (disch := omega) only [go_sem, ht, eq_self]
      (refine pCall_view (by simp -implicitDefEqProofs (disch := omega) only [go_sem, ht, eq_self] <;> rfl) (by simp -implicitDefEqProofs (disch := omega) only [go_sem, ht, eq_self]) (by first | (apply Or.inl; simp -implicitDefEqProofs (disch := omega) only [go_sem, ht, eq_self]; done) | (apply Or.inr; rintro r rfl; rfl)) (hd) ?_; rintro _ nx - rfl hnx; (try simp only [put_nx, withH_nx, begP_nx] at hnx); simp -implicitDefEqProofs (disch := omega) only [go_sem, ht, eq_self])
      generalize nx = n0 at *
      (refine pCall_view (by simp -implicitDefEqProofs (disch := omega) only [go_sem, ht, eq_self] <;> rfl) (by simp -implicitDefEqProofs (disch := omega) only [go_sem, ht, eq_self]) (by first | (apply Or.inl; simp -implicitDefEqProofs (disch := omega) only [go_sem, ht, eq_self]; done) | (apply Or.inr; rintro r rfl; rfl)) (ma) ?_; rintro _ nx - rfl hnx; (try simp only [put_nx, withH_nx, begP_nx] at hnx); simp -implicitDefEqProofs (disch := omega) only [go_sem, ht, eq_self])
      generalize nx = n1 at *
      (refine pCall_view (by simp -implicitDefEqProofs (disch := omega) only [hneg', go_sem, ht, eq_self] <;> rfl) (by simp -implicitDefEqProofs (disch := omega) only [hneg', go_sem, ht, eq_self]) (by first | (apply Or.inl; simp -implicitDefEqProofs (disch := omega) only [hneg', go_sem, ht, eq_self]; done) | (apply Or.inr; rintro r rfl; rfl)) (mb) ?_; rintro _ nx - rfl hnx; (try simp only [put_nx, withH_nx, begP_nx] at hnx); simp -implicitDefEqProofs (disch := omega) only [hneg', go_sem, ht, eq_self])
      generalize nx = n2 at *
      (refine pCall_view (by simp -implicitDefEqProofs (disch := omega) only [hneg', go_sem, ht, eq_self] <;> rfl) (by simp -implicitDefEqProofs (disch := omega) only [hneg', go_sem, ht, eq_self]) (by first | (apply Or.inl; simp -implicitDefEqProofs (disch := omega) only [hneg', go_sem, ht, eq_self]; done) | (apply Or.inr; rintro r rfl; rfl)) (hof) ?_; rintro _ nx - rfl hnx; (try simp only [put_nx, withH_nx, begP_nx] at hnx); simp -implicitDefEqProofs (disch := omega) only [hneg', go_sem, ht, eq_self])
      generalize nx = n3 at *
      (refine pCall_view (by simp -implicitDefEqProofs (disch := omega) only [hneg', go_sem, ht, eq_self] <;> rfl) (by simp -implicitDefEqProofs (disch := omega) only [hneg', go_sem, ht, eq_self]) (by first | (apply Or.inl; simp -implicitDefEqProofs (disch := omega) only [hneg', go_sem, ht, eq_self]; done) | (apply Or.inr; rintro r rfl; rfl)) (hs) ?_; rintro _ nx - rfl hnx; (try simp only [put_nx, withH_nx, begP_nx] at hnx); simp -implicitDefEqProofs (disch := omega) only [hneg', go_sem, ht, eq_self])
      generalize nx = n4 at *
      (refine pCall_view (by simp -implicitDefEqProofs (disch := omega) only [hneg', go_sem, ht, eq_self] <;> rfl) (by simp -implicitDefEqProofs (disch := omega) only [hneg', go_sem, ht, eq_self]) (by first | (apply Or.inl; simp -implicitDefEqProofs (disch := omega) only [hneg', go_sem, ht, eq_self]; done) | (apply Or.inr; rintro r rfl; rfl)) (A) ?_; rintro _ nx - rfl hnx; (try simp only [put_nx, withH_nx, begP_nx] at hnx); simp -implicitDefEqProofs (disch := omega) only [hneg', go_sem, ht, eq_self])
      generalize nx = n5 at *
      (refine pCall_view (by simp -implicitDefEqProofs (disch := omega) only [hneg', go_sem, ht, eq_self] <;> rfl) (by simp -implicitDefEqProofs (disch := omega) only [hneg', go_sem, ht, eq_self]) (by first | (apply Or.inl; simp -implicitDefEqProofs (disch := omega) only [hneg', go_sem, ht, eq_self]; done) | (apply Or.inr; rintro r rfl; rfl)) (S) ?_; rintro _ nx - rfl hnx; (try simp only [put_nx, withH_nx, begP_nx] at hnx); simp -implicitDefEqProofs (disch := omega) only [hneg', go_sem, ht, eq_self])
      (refine end_treeM 2 ?_; simp -implicitDefEqProofs (disch := omega) only [go_sem, ht, hneg', eq_self])
    · obtain ⟨g3, g4⟩ := g2 hd0
      rw [g3, g4]
      have hs0 : ¬ cZ (sg d (V ys)) 0 < 0 := by unfold cZ; rw [if_neg hd0]; split <;> omega
      have A := wsub_v (x := sg (b != d) (V xs / V ys)) (y := 1) (sg_Ok hq) Ok1 (by rw [V_D, V_D, sg_abs]; exact oq) (WV_C _) (WV_C 1)
      have S := wadd_v (x := sg b (V xs % V ys)) (d := d) (sg_Ok hr) hy (by rw [V_D, sg_abs]; exact or') (WV_C _) rfl
      unfold WV at S
      clear g1 g2 g3 g4 hsg
      generalize cZ (sg d (V ys)) 0 = k at *
      generalize sg (b != d) (V xs / V ys) - 1 = qq at *
      generalize sg b (V xs % V ys) + sg d (V ys) = rr at *
      generalize sg (b != d) (V xs / V ys) = q at *
      generalize sg b (V xs % V ys) = r at *
      have hneg' := decide_eq_true hneg
      refine PCalls.enter (n := 55) (rs := [.cell 4 28, .cell 5 28, .tmp 6]) (tb := [(4, [(0, []), (1, []), (2, []), (3, []), (4, []), (5, []), (7, []), (8, []), (9, []), (6, [7, 8, 9]), (10, []), (11, []), (12, [])]), (1000004, [(0, []), (1, []), (0, []), (4, []), (15, []), (0, []), (63, []), (0, []), (128, []), (0, []), (1023, []), (2047, []), (4095, [])]), (6, [(0, []), (1, []), (2, [1]), (3, []), (4, [])]), (9, [(0, []), (1, []), (3, []), (4, []), (2, [3, 4]), (5, []), (6, []), (7, []), (8, [])]), (10, [(0, []), (1, []), (3, []), (4, []), (2, [3, 4]), (5, []), (6, []), (7, []), (8, [])])]) Try.func46 rfl rfl rfl (by kernel_rfl) (by kernel_rfl) (by simp) fun c hc ht => ?_
      simp -implicitDefEqProofs (disch := omega) only [go_sem, ht, eq_self]
      (refine pCall_view (by simp -implicitDefEqProofs (disch := omega) only [go_sem, ht, eq_self] <;> rfl) (by simp -implicitDefEqProofs (disch := omega) only [go_sem, ht, eq_self]) (by first | (apply Or.inl; simp -implicitDefEqProofs (disch := omega) only [go_sem, ht, eq_self]; done) | (apply Or.inr; rintro r rfl; rfl)) (hd) ?_; rintro _ nx - rfl hnx; (try simp only [put_nx, withH_nx, begP_nx] at hnx); simp -implicitDefEqProofs (disch := omega) only [go_sem, ht, eq_self])
      generalize nx = n0 at *
      (refine pCall_view (by simp -implicitDefEqProofs (disch := omega) only [go_sem, ht, eq_self] <;> rfl) (by simp -implicitDefEqProofs (disch := omega) only [go_sem, ht, eq_self]) (by first | (apply Or.inl; simp -implicitDefEqProofs (disch := omega) only [go_sem, ht, eq_self]; done) | (apply Or.inr; rintro r rfl; rfl)) (ma) ?_; rintro _ nx - rfl hnx; (try simp only [put_nx, withH_nx, begP_nx] at hnx); simp -implicitDefEqProofs (disch := omega) only [go_sem, ht, eq_self])
      generalize nx = n1 at *
      (refine pCall_view (by simp -implicitDefEqProofs (disch := omega) only [hneg', go_sem, ht, eq_self] <;> rfl) (by simp -implicitDefEqProofs (disch := omega) only [hneg', go_sem, ht, eq_self]) (by first | (apply Or.inl; simp -implicitDefEqProofs (disch := omega) only [hneg', go_sem, ht, eq_self]; done) | (apply Or.inr; rintro r rfl; rfl)) (mb) ?_; rintro _ nx - rfl hnx; (try simp only [put_nx, withH_nx, begP_nx] at hnx); simp -implicitDefEqProofs (disch := omega) only [hneg', go_sem, ht, eq_self])
      generalize nx = n2 at *
      (refine pCall_view (by simp -implicitDefEqProofs (disch := omega) only [hneg', go_sem, ht, eq_self] <;> rfl) (by simp -implicitDefEqProofs (disch := omega) only [hneg', go_sem, ht, eq_self]) (by first | (apply Or.inl; simp -implicitDefEqProofs (disch := omega) only [hneg', go_sem, ht, eq_self]; done) | (apply Or.inr; rintro r rfl; rfl)) (hof) ?_; rintro _ nx - rfl hnx; (try simp only [put_nx, withH_nx, begP_nx] at hnx); simp -implicitDefEqProofs (disch := omega) only [hneg', go_sem, ht, eq_self])
      generalize nx = n3 at *
      (refine pCall_view (by simp -implicitDefEqProofs (disch := omega) only [hneg', go_sem, ht, eq_self] <;> rfl) (by simp -implicitDefEqProofs (disch := omega) only [hneg', go_sem, ht, eq_self]) (by first | (apply Or.inl; simp -implicitDefEqProofs (disch := omega) only [hneg', go_sem, ht, eq_self]; done) | (apply Or.inr; rintro r rfl; rfl)) (hs) ?_; rintro _ nx - rfl hnx; (try simp only [put_nx, withH_nx, begP_nx] at hnx); simp -implicitDefEqProofs (disch := omega) only [hneg', go_sem, ht, eq_self])
      generalize nx = n4 at *
      (refine pCall_view (by simp -implicitDefEqProofs (disch := omega) only [hneg', go_sem, ht, eq_self] <;> rfl) (by simp -implicitDefEqProofs (disch := omega) only [hneg', go_sem, ht, eq_self]) (by first | (apply Or.inl; simp -implicitDefEqProofs (disch := omega) only [hneg', go_sem, ht, eq_self]; done) | (apply Or.inr; rintro r rfl; rfl)) (A) ?_; rintro _ nx - rfl hnx; (try simp only [put_nx, withH_nx, begP_nx] at hnx); simp -implicitDefEqProofs (disch := omega) only [hneg', go_sem, ht, eq_self])
      generalize nx = n5 at *
      (refine pCall_view (by simp -implicitDefEqProofs (disch := omega) only [hneg', go_sem, ht, eq_self] <;> rfl) (by simp -implicitDefEqProofs (disch := omega) only [hneg', go_sem, ht, eq_self]) (by first | (apply Or.inl; simp -implicitDefEqProofs (disch := omega) only [hneg', go_sem, ht, eq_self]; done) | (apply Or.inr; rintro r rfl; rfl)) (S) ?_; rintro _ nx - rfl hnx; (try simp only [put_nx, withH_nx, begP_nx] at hnx); simp -implicitDefEqProofs (disch := omega) only [hneg', go_sem, ht, eq_self])
      (refine end_treeM 2 ?_; simp -implicitDefEqProofs (disch := omega) only [go_sem, ht, hneg', eq_self])
  · obtain ⟨g1, g2⟩ := hsg.2 hneg
    rw [g1, g2]
    clear g1 g2 hsg
    generalize sg (b != d) (V xs / V ys) = q at *
    generalize sg b (V xs % V ys) = r at *
    have hneg' := decide_eq_false hneg
    refine PCalls.enter (n := 55) (rs := [.cell 4 28, .cell 5 28, .tmp 6]) (tb := [(4, [(0, []), (1, []), (2, []), (3, []), (4, []), (5, []), (7, []), (8, []), (9, []), (6, [7, 8, 9]), (10, []), (11, []), (12, [])]), (1000004, [(0, []), (1, []), (0, []), (4, []), (15, []), (0, []), (63, []), (0, []), (128, []), (0, []), (1023, []), (2047, []), (4095, [])]), (6, [(0, []), (1, []), (2, [1]), (3, []), (4, [])]), (9, [(0, []), (1, []), (3, []), (4, []), (2, [3, 4]), (5, []), (6, []), (7, []), (8, [])]), (10, [(0, []), (1, []), (3, []), (4, []), (2, [3, 4]), (5, []), (6, []), (7, []), (8, [])])]) Try.func46 rfl rfl rfl (by kernel_rfl) (by kernel_rfl) (by simp) fun c hc ht => ?_
    simp -implicitDefEqProofs (disch := omega) only [go_sem, ht, eq_self]
    (refine pCall_view (by simp -implicitDefEqProofs (disch := omega) only [go_sem, ht, eq_self] <;> rfl) (by simp -implicitDefEqProofs (disch := omega) only [go_sem, ht, eq_self]) (by first | (apply Or.inl; simp -implicitDefEqProofs (disch := omega) only [go_sem, ht, eq_self]; done) | (apply Or.inr; rintro r rfl; rfl)) (hd) ?_; rintro _ nx - rfl hnx; (try simp only [put_nx, withH_nx, begP_nx] at hnx); simp -implicitDefEqProofs (disch := omega) only [go_sem, ht, eq_self])
    generalize nx = n0 at *
    (refine pCall_view (by simp -implicitDefEqProofs (disch := omega) only [go_sem, ht, eq_self] <;> rfl) (by simp -implicitDefEqProofs (disch := omega) only [go_sem, ht, eq_self]) (by first | (apply Or.inl; simp -implicitDefEqProofs (disch := omega) only [go_sem, ht, eq_self]; done) | (apply Or.inr; rintro r rfl; rfl)) (ma) ?_; rintro _ nx - rfl hnx; (try simp only [put_nx, withH_nx, begP_nx] at hnx); simp -implicitDefEqProofs (disch := omega) only [go_sem, ht, eq_self])
    generalize nx = n1 at *
    (refine pCall_view (by simp -implicitDefEqProofs (disch := omega) only [hneg', go_sem, ht, eq_self] <;> rfl) (by simp -implicitDefEqProofs (disch := omega) only [hneg', go_sem, ht, eq_self]) (by first | (apply Or.inl; simp -implicitDefEqProofs (disch := omega) only [hneg', go_sem, ht, eq_self]; done) | (apply Or.inr; rintro r rfl; rfl)) (mb) ?_; rintro _ nx - rfl hnx; (try simp only [put_nx, withH_nx, begP_nx] at hnx); simp -implicitDefEqProofs (disch := omega) only [hneg', go_sem, ht, eq_self])
    (refine end_treeM 2 ?_; simp -implicitDefEqProofs (disch := omega) only [go_sem, ht, hneg', eq_self])
end Go.Proofs.Ytfbmdbgjfnkmiaa
