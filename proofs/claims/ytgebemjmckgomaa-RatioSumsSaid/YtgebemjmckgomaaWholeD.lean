/- The program's whole: quotients as lists of their own. -/
import Derived.Test.YtgebemjmckgomaaWholeB
import Derived.Test.YtgebemjmckgomaaOwn2
set_option maxRecDepth 100000
set_option linter.unusedVariables false
set_option linter.unusedSimpArgs false
namespace Go.Proofs.Ytgebemjmckgomaa

/-- Two numbers and a word. -/
def mkQ (q r : Int) (ok : Bool) (p1 p2 : PV) : PV := .tup [.agg [.val (.bool (decide (q < 0))), p1], .agg [.val (.bool (decide (r < 0))), p2], .val (.bool ok)]
theorem mk_Q (q r : Int) (ok : Bool) : Mk2 (mkQ q r ok) := mk_wwv _ _ _
theorem mkQ_def (q r : Int) (ok : Bool) (p1 p2 : PV) : mkQ q r ok p1 p2 = .tup [.agg [.val (.bool (decide (q < 0))), p1], .agg [.val (.bool (decide (r < 0))), p2], .val (.bool ok)] := rfl
attribute [go_sem] mkQ_def
section
variable {b d : Bool} {xs ys : List Nat}
theorem wdivmod_own0 (hx : Ok xs) (hy : Ok ys) (h0 : V ys = 0) : PO2 Try.prog 83 [WX b xs, WX d ys] (mkQ 0 0 false) [] [] := by
  have hd := divmod_own hx hy
  rw [if_pos h0, h0, Nat.div_zero, decide_eq_false (by simp)] at hd
  refine PCalls.enter (n := 55) (rs := [.cell 4 24, .cell 5 24, .tmp 6]) (tb := [(4, [(0, []), (1, []), (2, []), (3, []), (4, []), (5, []), (7, []), (8, []), (9, []), (6, [7, 8, 9]), (10, []), (11, []), (12, [])]), (1000004, [(0, []), (1, []), (0, []), (4, []), (15, []), (0, []), (63, []), (0, []), (128, []), (0, []), (1023, []), (2047, []), (4095, [])]), (6, [(0, []), (1, []), (2, [1]), (3, []), (4, [])]), (9, [(0, []), (1, []), (3, []), (4, []), (2, [3, 4]), (5, []), (6, []), (7, []), (8, [])]), (10, [(0, []), (1, []), (3, []), (4, []), (2, [3, 4]), (5, []), (6, []), (7, []), (8, [])])]) Try.func83 rfl rfl rfl (by kernel_rfl) (by kernel_rfl) (by simp) fun c hc ht => ?_
  simp -implicitDefEqProofs (disch := omega) only [go_sem, ht, eq_self]
  (refine pCall_own2 (mk := fun p q => .tup [p, q, .val (.bool false)]) (mk_llv _) (by simp -implicitDefEqProofs (disch := omega) only [go_sem, ht, eq_self] <;> rfl) (by simp -implicitDefEqProofs (disch := omega) only [go_sem, ht, eq_self]) (closedL_U _) (flatL_U _) (closedL_U _) (flatL_U _) (hd) ?_; intro id1 cap1 rest1 jd1 dap1 sest1 nx1 hid1 hnx1 hjd1 hmx1 hne1 hcap1 hdap1; simp only [put_nx, withH_nx, begP_nx, List.length_map] at hid1 hjd1 hcap1 hdap1; simp -implicitDefEqProofs (disch := omega) only [go_sem, ht, eq_self])
  exact end_own2_nn (mk_Q 0 0 false) (by simp -implicitDefEqProofs (disch := omega) only [go_sem, ht, eq_self] <;> rfl)
theorem wdivmod_own (hx : Ok xs) (hy : Ok ys) (h0 : V ys ≠ 0) (hxl : xs.length < 1099511627776) (hyl : ys.length < 1099511627776) :
    PO2 Try.prog 83 [WX b xs, WX d ys] (mkQ (WV b xs / WV d ys) (WV b xs % WV d ys) true) ((D (WV b xs / WV d ys).natAbs).map U) ((D (WV b xs % WV d ys).natAbs).map U) := by
  have hd := divmod_own hx hy
  rw [if_neg h0, decide_eq_true h0] at hd
  have hsg := sg_div (b := b) (d := d) (m := V xs) h0
  have hs := wsign_calls (b := d) hy
  have hq : Ok (D (V xs / V ys)) := Ok_le hx.short (Nat.div_le_self _ _)
  have hr : Ok (D (V xs % V ys)) := Ok_le hx.short (Nat.mod_le _ _)
  have eqs : ((b != d) && decide (0 < (D (V xs / V ys)).length)) = decide (sg (b != d) (V xs / V ys) < 0) := (sg_neg _ _).symm
  have ers : (b && decide (0 < (D (V xs % V ys)).length)) = decide (sg b (V xs % V ys) < 0) := (sg_neg _ _).symm
  have eqa := sg_abs (b != d) (V xs / V ys)
  have era := sg_abs b (V xs % V ys)
  have lql := hq.len
  have lrl := hr.len
  unfold WV at *
  by_cases hneg : sg b (V xs % V ys) < 0
  · obtain ⟨g1, g2⟩ := hsg.1 hneg
    have hof := PWtree (wof_calls (v := 1) (by omega) (by omega))
    have lq := Nat.le_trans (D_len_mono (Nat.div_le_self (V xs) (V ys))) (D_len_V hx.lm)
    have lr := Nat.le_trans (D_len_mono (Nat.le_of_lt (Nat.mod_lt (V xs) (Nat.pos_of_ne_zero h0)))) (D_len_V hy.lm)
    have l1 : (D 1).length = 1 := by rw [D_one (by omega) (by omega)]; rfl
    have oq : Ok (D (V xs / V ys + 1)) := by
      by_cases hz : xs.length = 0
      · refine Ok_add (k := 1) hq (by omega) (by omega) (by omega)
      · exact Ok_add (k := xs.length) hq lq (by omega) hxl
    have or' : Ok (D (V xs % V ys + V ys)) := Ok_add (k := ys.length) hr lr (D_len_V hy.lm) hyl
    have hneg' := decide_eq_true hneg
    rw [hneg'] at ers
    have eA : WV (decide (sg (b != d) (V xs / V ys) < 0)) (D (V xs / V ys)) = sg (b != d) (V xs / V ys) := by
      have := WV_C (sg (b != d) (V xs / V ys)); rwa [sg_abs] at this
    have eS : WV true (D (V xs % V ys)) = sg b (V xs % V ys) := by
      have := WV_C (sg b (V xs % V ys)); rwa [sg_abs, hneg'] at this
    by_cases hd0 : sg d (V ys) < 0
    · obtain ⟨g3, g4⟩ := g1 hd0
      rw [g3, g4]
      rw [cZ_lt hd0] at hs
      have A := wadd_calls (b := decide (sg (b != d) (V xs / V ys) < 0)) (d := decide ((1 : Int) < 0)) (xs := D (V xs / V ys)) (ys := D (1 : Int).natAbs) hq Ok1 (by rw [V_D, V_D]; exact oq)
      have S := wsub_calls (b := true) (d := d) (xs := D (V xs % V ys)) hr hy (by rw [V_D]; exact or')
      rw [eA, WV_C 1] at A
      rw [eS] at S
      unfold WV at S
      clear g1 g2 g3 g4 hsg eA eS eqa era
      generalize sg (b != d) (V xs / V ys) + 1 = qq at *
      generalize sg b (V xs % V ys) - sg d (V ys) = rr at *
      generalize sg (b != d) (V xs / V ys) = q at *
      generalize sg b (V xs % V ys) = r at *
      generalize V xs / V ys = qn at *
      generalize V xs % V ys = rn at *
      refine PCalls.enter (n := 55) (rs := [.cell 4 24, .cell 5 24, .tmp 6]) (tb := [(4, [(0, []), (1, []), (2, []), (3, []), (4, []), (5, []), (7, []), (8, []), (9, []), (6, [7, 8, 9]), (10, []), (11, []), (12, [])]), (1000004, [(0, []), (1, []), (0, []), (4, []), (15, []), (0, []), (63, []), (0, []), (128, []), (0, []), (1023, []), (2047, []), (4095, [])]), (6, [(0, []), (1, []), (2, [1]), (3, []), (4, [])]), (9, [(0, []), (1, []), (3, []), (4, []), (2, [3, 4]), (5, []), (6, []), (7, []), (8, [])]), (10, [(0, []), (1, []), (3, []), (4, []), (2, [3, 4]), (5, []), (6, []), (7, []), (8, [])])]) Try.func83 rfl rfl rfl (by kernel_rfl) (by kernel_rfl) (by simp) fun c hc ht => ?_
      simp -implicitDefEqProofs (disch := omega) only [go_sem, ht, eq_self]
      (refine pCall_own2 (mk := fun p q => .tup [p, q, .val (.bool true)]) (mk_llv _) (by simp -implicitDefEqProofs (disch := omega) only [go_sem, ht, eq_self] <;> rfl) (by simp -implicitDefEqProofs (disch := omega) only [go_sem, ht, eq_self]) (closedL_U _) (flatL_U _) (closedL_U _) (flatL_U _) (hd) ?_; intro id1 cap1 rest1 jd1 dap1 sest1 nx1 hid1 hnx1 hjd1 hmx1 hne1 hcap1 hdap1; simp only [put_nx, withH_nx, begP_nx, List.length_map] at hid1 hjd1 hcap1 hdap1; simp -implicitDefEqProofs (disch := omega) only [go_sem, ht, eq_self])
      (apply pCall_mem; exact (made_own (by simp -implicitDefEqProofs (disch := omega) only [eqs, ers, go_sem, ht, eq_self] <;> rfl)); rintro _ _ nx2 ⟨rfl, rfl⟩ hnx2; (try simp only [put_nx, withH_nx, begP_nx] at hnx2); simp -implicitDefEqProofs (disch := omega) only [eqs, ers, go_sem, ht, eq_self])
      (apply pCall_mem; exact (made_own (by simp -implicitDefEqProofs (disch := omega) only [eqs, ers, go_sem, ht, eq_self] <;> rfl)); rintro _ _ nx3 ⟨rfl, rfl⟩ hnx3; (try simp only [put_nx, withH_nx, begP_nx] at hnx3); simp -implicitDefEqProofs (disch := omega) only [eqs, ers, go_sem, ht, eq_self])
      (refine pCall_view (by simp -implicitDefEqProofs (disch := omega) only [eqs, ers, go_sem, ht, eq_self] <;> rfl) (by simp -implicitDefEqProofs (disch := omega) only [eqs, ers, go_sem, ht, eq_self]) (by first | (apply Or.inl; simp -implicitDefEqProofs (disch := omega) only [eqs, ers, go_sem, ht, eq_self]; done) | (apply Or.inr; rintro r rfl; rfl)) (hof) ?_; rintro _ nx - rfl hnx; (try simp only [put_nx, withH_nx, begP_nx] at hnx); simp -implicitDefEqProofs (disch := omega) only [eqs, ers, go_sem, ht, eq_self])
      (refine pCall_view (by simp -implicitDefEqProofs (disch := omega) only [eqs, ers, go_sem, ht, eq_self] <;> rfl) (by simp -implicitDefEqProofs (disch := omega) only [eqs, ers, go_sem, ht, eq_self]) (by first | (apply Or.inl; simp -implicitDefEqProofs (disch := omega) only [eqs, ers, go_sem, ht, eq_self]; done) | (apply Or.inr; rintro r rfl; rfl)) (hs) ?_; rintro _ nx - rfl hnx; (try simp only [put_nx, withH_nx, begP_nx] at hnx); simp -implicitDefEqProofs (disch := omega) only [eqs, ers, go_sem, ht, eq_self])
      (refine pCall_own1 (mk := mkW qq) (mk_W qq) (by simp -implicitDefEqProofs (disch := omega) only [eqs, ers, if_pos, Nat.le_add_right, go_sem, ht, eq_self] <;> rfl) (by simp -implicitDefEqProofs (disch := omega) only [eqs, ers, if_pos, Nat.le_add_right, go_sem, ht, eq_self]) (closedL_U _) (flatL_U _) (A) ?_; intro id4 cap4 rest4 nx4 hid4 hnx4 hcap4; simp only [put_nx, withH_nx, begP_nx, List.length_map] at hid4 hcap4; simp -implicitDefEqProofs (disch := omega) only [eqs, ers, if_pos, Nat.le_add_right, go_sem, ht, eq_self])
      (refine pCall_own1 (mk := mkW rr) (mk_W rr) (by simp -implicitDefEqProofs (disch := omega) only [eqs, ers, if_pos, Nat.le_add_right, go_sem, ht, eq_self] <;> rfl) (by simp -implicitDefEqProofs (disch := omega) only [eqs, ers, if_pos, Nat.le_add_right, go_sem, ht, eq_self]) (closedL_U _) (flatL_U _) (S) ?_; intro id5 cap5 rest5 nx5 hid5 hnx5 hcap5; simp only [put_nx, withH_nx, begP_nx, List.length_map] at hid5 hcap5; simp -implicitDefEqProofs (disch := omega) only [eqs, ers, if_pos, Nat.le_add_right, go_sem, ht, eq_self])
      exact end_own2 (mk := mkQ qq rr true) (by simp -implicitDefEqProofs (disch := omega) only [go_sem, ht, eq_self] <;> rfl) (by omega) (by simp -implicitDefEqProofs (disch := omega) only [go_sem, ht, eq_self] <;> rfl) (by simp -implicitDefEqProofs (disch := omega) only [go_sem, ht, eq_self] <;> rfl) (by simp <;> omega) (by simp <;> omega) (by simp <;> omega) (by simp <;> omega)
    · obtain ⟨g3, g4⟩ := g2 hd0
      rw [g3, g4]
      have hs0 : ¬ cZ (sg d (V ys)) 0 < 0 := by unfold cZ; rw [if_neg hd0]; split <;> omega
      have A := wsub_calls (b := decide (sg (b != d) (V xs / V ys) < 0)) (d := decide ((1 : Int) < 0)) (xs := D (V xs / V ys)) (ys := D (1 : Int).natAbs) hq Ok1 (by rw [V_D, V_D]; exact oq)
      have S := wadd_calls (b := true) (d := d) (xs := D (V xs % V ys)) hr hy (by rw [V_D]; exact or')
      rw [eA, WV_C 1] at A
      rw [eS] at S
      unfold WV at S
      clear g1 g2 g3 g4 hsg eA eS eqa era
      generalize cZ (sg d (V ys)) 0 = k at *
      generalize sg (b != d) (V xs / V ys) - 1 = qq at *
      generalize sg b (V xs % V ys) + sg d (V ys) = rr at *
      generalize sg (b != d) (V xs / V ys) = q at *
      generalize sg b (V xs % V ys) = r at *
      generalize V xs / V ys = qn at *
      generalize V xs % V ys = rn at *
      refine PCalls.enter (n := 55) (rs := [.cell 4 24, .cell 5 24, .tmp 6]) (tb := [(4, [(0, []), (1, []), (2, []), (3, []), (4, []), (5, []), (7, []), (8, []), (9, []), (6, [7, 8, 9]), (10, []), (11, []), (12, [])]), (1000004, [(0, []), (1, []), (0, []), (4, []), (15, []), (0, []), (63, []), (0, []), (128, []), (0, []), (1023, []), (2047, []), (4095, [])]), (6, [(0, []), (1, []), (2, [1]), (3, []), (4, [])]), (9, [(0, []), (1, []), (3, []), (4, []), (2, [3, 4]), (5, []), (6, []), (7, []), (8, [])]), (10, [(0, []), (1, []), (3, []), (4, []), (2, [3, 4]), (5, []), (6, []), (7, []), (8, [])])]) Try.func83 rfl rfl rfl (by kernel_rfl) (by kernel_rfl) (by simp) fun c hc ht => ?_
      simp -implicitDefEqProofs (disch := omega) only [go_sem, ht, eq_self]
      (refine pCall_own2 (mk := fun p q => .tup [p, q, .val (.bool true)]) (mk_llv _) (by simp -implicitDefEqProofs (disch := omega) only [go_sem, ht, eq_self] <;> rfl) (by simp -implicitDefEqProofs (disch := omega) only [go_sem, ht, eq_self]) (closedL_U _) (flatL_U _) (closedL_U _) (flatL_U _) (hd) ?_; intro id1 cap1 rest1 jd1 dap1 sest1 nx1 hid1 hnx1 hjd1 hmx1 hne1 hcap1 hdap1; simp only [put_nx, withH_nx, begP_nx, List.length_map] at hid1 hjd1 hcap1 hdap1; simp -implicitDefEqProofs (disch := omega) only [go_sem, ht, eq_self])
      (apply pCall_mem; exact (made_own (by simp -implicitDefEqProofs (disch := omega) only [eqs, ers, go_sem, ht, eq_self] <;> rfl)); rintro _ _ nx2 ⟨rfl, rfl⟩ hnx2; (try simp only [put_nx, withH_nx, begP_nx] at hnx2); simp -implicitDefEqProofs (disch := omega) only [eqs, ers, go_sem, ht, eq_self])
      (apply pCall_mem; exact (made_own (by simp -implicitDefEqProofs (disch := omega) only [eqs, ers, go_sem, ht, eq_self] <;> rfl)); rintro _ _ nx3 ⟨rfl, rfl⟩ hnx3; (try simp only [put_nx, withH_nx, begP_nx] at hnx3); simp -implicitDefEqProofs (disch := omega) only [eqs, ers, go_sem, ht, eq_self])
      (refine pCall_view (by simp -implicitDefEqProofs (disch := omega) only [eqs, ers, go_sem, ht, eq_self] <;> rfl) (by simp -implicitDefEqProofs (disch := omega) only [eqs, ers, go_sem, ht, eq_self]) (by first | (apply Or.inl; simp -implicitDefEqProofs (disch := omega) only [eqs, ers, go_sem, ht, eq_self]; done) | (apply Or.inr; rintro r rfl; rfl)) (hof) ?_; rintro _ nx - rfl hnx; (try simp only [put_nx, withH_nx, begP_nx] at hnx); simp -implicitDefEqProofs (disch := omega) only [eqs, ers, go_sem, ht, eq_self])
      (refine pCall_view (by simp -implicitDefEqProofs (disch := omega) only [eqs, ers, go_sem, ht, eq_self] <;> rfl) (by simp -implicitDefEqProofs (disch := omega) only [eqs, ers, go_sem, ht, eq_self]) (by first | (apply Or.inl; simp -implicitDefEqProofs (disch := omega) only [eqs, ers, go_sem, ht, eq_self]; done) | (apply Or.inr; rintro r rfl; rfl)) (hs) ?_; rintro _ nx - rfl hnx; (try simp only [put_nx, withH_nx, begP_nx] at hnx); simp -implicitDefEqProofs (disch := omega) only [eqs, ers, go_sem, ht, eq_self])
      (refine pCall_own1 (mk := mkW qq) (mk_W qq) (by simp -implicitDefEqProofs (disch := omega) only [eqs, ers, if_pos, Nat.le_add_right, go_sem, ht, eq_self] <;> rfl) (by simp -implicitDefEqProofs (disch := omega) only [eqs, ers, if_pos, Nat.le_add_right, go_sem, ht, eq_self]) (closedL_U _) (flatL_U _) (A) ?_; intro id4 cap4 rest4 nx4 hid4 hnx4 hcap4; simp only [put_nx, withH_nx, begP_nx, List.length_map] at hid4 hcap4; simp -implicitDefEqProofs (disch := omega) only [eqs, ers, if_pos, Nat.le_add_right, go_sem, ht, eq_self])
      (refine pCall_own1 (mk := mkW rr) (mk_W rr) (by simp -implicitDefEqProofs (disch := omega) only [eqs, ers, if_pos, Nat.le_add_right, go_sem, ht, eq_self] <;> rfl) (by simp -implicitDefEqProofs (disch := omega) only [eqs, ers, if_pos, Nat.le_add_right, go_sem, ht, eq_self]) (closedL_U _) (flatL_U _) (S) ?_; intro id5 cap5 rest5 nx5 hid5 hnx5 hcap5; simp only [put_nx, withH_nx, begP_nx, List.length_map] at hid5 hcap5; simp -implicitDefEqProofs (disch := omega) only [eqs, ers, if_pos, Nat.le_add_right, go_sem, ht, eq_self])
      exact end_own2 (mk := mkQ qq rr true) (by simp -implicitDefEqProofs (disch := omega) only [go_sem, ht, eq_self] <;> rfl) (by omega) (by simp -implicitDefEqProofs (disch := omega) only [go_sem, ht, eq_self] <;> rfl) (by simp -implicitDefEqProofs (disch := omega) only [go_sem, ht, eq_self] <;> rfl) (by simp <;> omega) (by simp <;> omega) (by simp <;> omega) (by simp <;> omega)
  · obtain ⟨g1, g2⟩ := hsg.2 hneg
    rw [g1, g2, eqa, era]
    have hneg' := decide_eq_false hneg
    clear g1 g2 hsg eqa era hs
    generalize sg (b != d) (V xs / V ys) = q at *
    generalize sg b (V xs % V ys) = r at *
    generalize V xs / V ys = qn at *
    generalize V xs % V ys = rn at *
    rw [hneg'] at ers
    refine PCalls.enter (n := 55) (rs := [.cell 4 24, .cell 5 24, .tmp 6]) (tb := [(4, [(0, []), (1, []), (2, []), (3, []), (4, []), (5, []), (7, []), (8, []), (9, []), (6, [7, 8, 9]), (10, []), (11, []), (12, [])]), (1000004, [(0, []), (1, []), (0, []), (4, []), (15, []), (0, []), (63, []), (0, []), (128, []), (0, []), (1023, []), (2047, []), (4095, [])]), (6, [(0, []), (1, []), (2, [1]), (3, []), (4, [])]), (9, [(0, []), (1, []), (3, []), (4, []), (2, [3, 4]), (5, []), (6, []), (7, []), (8, [])]), (10, [(0, []), (1, []), (3, []), (4, []), (2, [3, 4]), (5, []), (6, []), (7, []), (8, [])])]) Try.func83 rfl rfl rfl (by kernel_rfl) (by kernel_rfl) (by simp) fun c hc ht => ?_
    simp -implicitDefEqProofs (disch := omega) only [go_sem, ht, eq_self]
    (refine pCall_own2 (mk := fun p q => .tup [p, q, .val (.bool true)]) (mk_llv _) (by simp -implicitDefEqProofs (disch := omega) only [go_sem, ht, eq_self] <;> rfl) (by simp -implicitDefEqProofs (disch := omega) only [go_sem, ht, eq_self]) (closedL_U _) (flatL_U _) (closedL_U _) (flatL_U _) (hd) ?_; intro id1 cap1 rest1 jd1 dap1 sest1 nx1 hid1 hnx1 hjd1 hmx1 hne1 hcap1 hdap1; simp only [put_nx, withH_nx, begP_nx, List.length_map] at hid1 hjd1 hcap1 hdap1; simp -implicitDefEqProofs (disch := omega) only [go_sem, ht, eq_self])
    (apply pCall_mem; exact (made_own (by simp -implicitDefEqProofs (disch := omega) only [eqs, ers, go_sem, ht, eq_self] <;> rfl)); rintro _ _ nx2 ⟨rfl, rfl⟩ hnx2; (try simp only [put_nx, withH_nx, begP_nx] at hnx2); simp -implicitDefEqProofs (disch := omega) only [eqs, ers, go_sem, ht, eq_self])
    (apply pCall_mem; exact (made_own (by simp -implicitDefEqProofs (disch := omega) only [eqs, ers, go_sem, ht, eq_self] <;> rfl)); rintro _ _ nx3 ⟨rfl, rfl⟩ hnx3; (try simp only [put_nx, withH_nx, begP_nx] at hnx3); simp -implicitDefEqProofs (disch := omega) only [eqs, ers, go_sem, ht, eq_self])
    exact end_own2 (mk := mkQ q r true) (by simp -implicitDefEqProofs (disch := omega) only [hneg', go_sem, ht, eq_self] <;> rfl) (by omega) (by simp -implicitDefEqProofs (disch := omega) only [hneg', go_sem, ht, eq_self] <;> rfl) (by simp -implicitDefEqProofs (disch := omega) only [hneg', go_sem, ht, eq_self] <;> rfl) (by simp <;> omega) (by simp <;> omega) (by simp <;> omega) (by simp <;> omega)
end
end Go.Proofs.Ytgebemjmckgomaa
