/- The program's ratio: answers as lists of their own. -/
import Derived.Test.YtgebemjmckgomaaRatio5
import Derived.Test.YtgebemjmckgomaaWholeD
import Derived.Test.YtgebemjmckgomaaOwn3
set_option maxRecDepth 100000
set_option linter.unusedVariables false
set_option linter.unusedSimpArgs false
namespace Go.Proofs.Ytgebemjmckgomaa

/-- A fraction, its lists put in. -/
def mkF (q : Rat) (p1 p2 : PV) : PV := .agg [.val (.bool (decide (q.num < 0))), p1, p2]
theorem mk_F (q : Rat) : Mk2 (mkF q) := mk_f _
theorem mkF_def (q : Rat) (p1 p2 : PV) : mkF q p1 p2 = .agg [.val (.bool (decide (q.num < 0))), p1, p2] := rfl
attribute [go_sem] mkF_def
/-- A contract whose answer is a fraction with lists of its own. -/
def PF (f : FuncId) (args : List PV) (q : Rat) : Prop := PO2 Try.prog f args (mkF q) ((D q.num.natAbs).map U) ((D q.den).map U)
theorem PF.def {f : FuncId} {args : List PV} {q : Rat} : PF f args q = PCalls Try.prog f args (fun _ => none) 0 (own2Q (mkF q) ((D q.num.natAbs).map U) ((D q.den).map U)) := rfl
set_option maxHeartbeats 2000000 in
theorem lowest_own {b : Bool} {xs ds : List Nat} (hx : Ok xs) (hd : Ok ds) : PF 65 [WX b xs, SU ds] (FV b xs ds) := by
  have ht1 := wtrim_calls hx (b := b)
  have ht2 := trim_calls hd
  have hone := one_calls
  unfold FV
  have oz : Ok (D (WV b xs).natAbs) := by rw [WV_abs]; exact hx.short
  have od := hd.short
  have ozl := oz.len
  have odl := od.len
  rw [PF.def]
  generalize WV b xs = z at *
  generalize V ds = d at *
  have e01 : D (Rat.den 0) = [1] := by rw [Rat.zero_den, D_one (by omega) (by omega)]
  have e00 : D (Rat.num 0).natAbs = [] := by rw [Rat.zero_num]; exact D_zero
  have en0 : decide (Rat.num 0 < 0) = false := by rw [Rat.zero_num]; rfl
  by_cases hd0 : d = 0
  · subst hd0
    rw [Rat.mkRat_zero, e01, e00, List.map_nil]
    have hdl : (D 0).length = 0 := D_len_zero.2 rfl
    refine PCalls.enter (n := 49) (rs := [.cell 4 28]) (tb := []) Try.func65 rfl rfl rfl (by kernel_rfl) (by kernel_rfl) (by simp) fun c hc ht => ?_
    simp -implicitDefEqProofs (disch := omega) only [go_sem, ht, eq_self]
    (refine pCall_own1 (mk := mkW z) (mk_W z) (by simp -implicitDefEqProofs (disch := omega) only [go_sem, ht, eq_self] <;> rfl) (by simp -implicitDefEqProofs (disch := omega) only [go_sem, ht, eq_self]) (closedL_U _) (flatL_U _) (ht1) ?_; intro id1 cap1 rest1 nx1 hid1 hnx1 hcap1; simp only [put_nx, withH_nx, begP_nx, List.length_map] at hid1 hcap1; simp -implicitDefEqProofs (disch := omega) only [go_sem, ht, eq_self])
    (refine pCall_own1 (mk := fun p => p) (mk_id) (by simp -implicitDefEqProofs (disch := omega) only [go_sem, ht, eq_self] <;> rfl) (by simp -implicitDefEqProofs (disch := omega) only [go_sem, ht, eq_self]) (closedL_U _) (flatL_U _) (ht2) ?_; intro id2 cap2 rest2 nx2 hid2 hnx2 hcap2; simp only [put_nx, withH_nx, begP_nx, List.length_map] at hid2 hcap2; simp -implicitDefEqProofs (disch := omega) only [go_sem, ht, eq_self])
    (refine pCall_own1 (mk := fun p => p) (mk_id) (by simp -implicitDefEqProofs (disch := omega) only [go_sem, ht, eq_self] <;> rfl) (by simp -implicitDefEqProofs (disch := omega) only [go_sem, ht, eq_self]) (closedL_U _) (flatL_U _) (hone) ?_; intro id3 cap3 rest3 nx3 hid3 hnx3 hcap3; simp only [put_nx, withH_nx, begP_nx, List.length_map] at hid3 hcap3; simp -implicitDefEqProofs (disch := omega) only [go_sem, ht, eq_self])
    exact end_own2_nl (mk_F 0) (by simp -implicitDefEqProofs (disch := omega) only [go_sem, ht, en0, eq_self] <;> rfl) (by simp -implicitDefEqProofs (disch := omega) only [go_sem, ht, eq_self] <;> rfl) (by simp) (by simp <;> omega) (by simp -implicitDefEqProofs (disch := omega) only [go_sem, ht, eq_self] <;> omega)
  by_cases hz0 : z = 0
  · subst hz0
    have hdl : (D d).length ≠ 0 := fun h => hd0 (D_len_zero.1 h)
    have hzl : (D (Int.natAbs 0)).length = 0 := D_len_zero.2 rfl
    rw [Rat.zero_mkRat, e01, e00, List.map_nil]
    refine PCalls.enter (n := 49) (rs := [.cell 4 28]) (tb := []) Try.func65 rfl rfl rfl (by kernel_rfl) (by kernel_rfl) (by simp) fun c hc ht => ?_
    simp -implicitDefEqProofs (disch := omega) only [go_sem, ht, eq_self]
    (refine pCall_own1 (mk := mkW 0) (mk_W 0) (by simp -implicitDefEqProofs (disch := omega) only [go_sem, ht, eq_self] <;> rfl) (by simp -implicitDefEqProofs (disch := omega) only [go_sem, ht, eq_self]) (closedL_U _) (flatL_U _) (ht1) ?_; intro id1 cap1 rest1 nx1 hid1 hnx1 hcap1; simp only [put_nx, withH_nx, begP_nx, List.length_map] at hid1 hcap1; simp -implicitDefEqProofs (disch := omega) only [go_sem, ht, eq_self])
    (refine pCall_own1 (mk := fun p => p) (mk_id) (by simp -implicitDefEqProofs (disch := omega) only [go_sem, ht, eq_self] <;> rfl) (by simp -implicitDefEqProofs (disch := omega) only [go_sem, ht, eq_self]) (closedL_U _) (flatL_U _) (ht2) ?_; intro id2 cap2 rest2 nx2 hid2 hnx2 hcap2; simp only [put_nx, withH_nx, begP_nx, List.length_map] at hid2 hcap2; simp -implicitDefEqProofs (disch := omega) only [go_sem, ht, eq_self])
    (refine pCall_own1 (mk := fun p => p) (mk_id) (by simp -implicitDefEqProofs (disch := omega) only [go_sem, ht, eq_self] <;> rfl) (by simp -implicitDefEqProofs (disch := omega) only [go_sem, ht, eq_self]) (closedL_U _) (flatL_U _) (hone) ?_; intro id3 cap3 rest3 nx3 hid3 hnx3 hcap3; simp only [put_nx, withH_nx, begP_nx, List.length_map] at hid3 hcap3; simp -implicitDefEqProofs (disch := omega) only [go_sem, ht, eq_self])
    exact end_own2_nl (mk_F 0) (by simp -implicitDefEqProofs (disch := omega) only [go_sem, ht, en0, eq_self] <;> rfl) (by simp -implicitDefEqProofs (disch := omega) only [go_sem, ht, eq_self] <;> rfl) (by simp) (by simp <;> omega) (by simp -implicitDefEqProofs (disch := omega) only [go_sem, ht, eq_self] <;> omega)
  have hdl : (D d).length ≠ 0 := fun h => hd0 (D_len_zero.1 h)
  have hzl : (D z.natAbs).length ≠ 0 := fun h => hz0 (by have := D_len_zero.1 h; omega)
  have ez : sg (decide (z < 0)) z.natAbs = z := sg_WV
  have hm0 : z.natAbs ≠ 0 := by omega
  obtain ⟨q, eq⟩ : ∃ q, mkRat z d = q := ⟨_, rfl⟩
  rw [eq]
  rw [← ez] at eq
  clear ez hz0
  refine PCalls.enter (n := 49) (rs := [.cell 4 28]) (tb := []) Try.func65 rfl rfl rfl (by kernel_rfl) (by kernel_rfl) (by simp) fun c hc ht => ?_
  simp -implicitDefEqProofs (disch := omega) only [go_sem, ht, eq_self]
  (refine pCall_own1 (mk := mkW z) (mk_W z) (by simp -implicitDefEqProofs (disch := omega) only [go_sem, ht, eq_self] <;> rfl) (by simp -implicitDefEqProofs (disch := omega) only [go_sem, ht, eq_self]) (closedL_U _) (flatL_U _) (ht1) ?_; intro id1 cap1 rest1 nx1 hid1 hnx1 hcap1; simp only [put_nx, withH_nx, begP_nx, List.length_map] at hid1 hcap1; simp -implicitDefEqProofs (disch := omega) only [go_sem, ht, eq_self])
  (refine pCall_own1 (mk := fun p => p) (mk_id) (by simp -implicitDefEqProofs (disch := omega) only [go_sem, ht, eq_self] <;> rfl) (by simp -implicitDefEqProofs (disch := omega) only [go_sem, ht, eq_self]) (closedL_U _) (flatL_U _) (ht2) ?_; intro id2 cap2 rest2 nx2 hid2 hnx2 hcap2; simp only [put_nx, withH_nx, begP_nx, List.length_map] at hid2 hcap2; simp -implicitDefEqProofs (disch := omega) only [go_sem, ht, eq_self])
  clear ht1 ht2
  generalize decide (z < 0) = sb at *
  generalize z.natAbs = m0 at *
  refine LW.loopW hc ht (by kernel_rfl) (fun t => t.sl 4 = .ptr 1 0 ∧ t.H 1 = some [.val (.bool false), .val (.slice none 0 0), .val (.slice none 0 0)] ∧ ∃ r5 : Nat, t.sl 5 = .ptr r5 0 ∧ r5 ≠ 1 ∧ 1 < t.nx ∧ r5 < t.nx ∧ ∃ m e : Nat, m ≠ 0 ∧ e ≠ 0 ∧ Ok (D m) ∧ Ok (D e) ∧ mkRat (sg sb m) e = q ∧
      ∃ (i1 c1 : Nat) (s1 : List Value) (i2 c2 : Nat) (s2 : List Value), t.H r5 = some [.val (.bool sb), .ref i1 0 (D m).length c1 1] ∧ t.H i1 = some ((D m).map U ++ s1.map .val) ∧ (D m).length + s1.length = c1 ∧ i1 < t.nx ∧ i1 ≠ r5 ∧ i1 ≠ 1 ∧
      t.sl 6 = .ref i2 0 (D e).length c2 1 ∧ t.H i2 = some ((D e).map U ++ s2.map .val) ∧ (D e).length + s2.length = c2 ∧ i2 < t.nx ∧ i2 ≠ r5 ∧ i2 ≠ 1 ∧ i1 ≠ i2)
      (fun t => match t.sl 6 with | .ref i _ n _ _ => (match t.H i with | some cs => V ((cs.take n).map unU) | none => 0) | _ => 0) ?_ ?_
  · simp -implicitDefEqProofs (disch := omega) only [go_sem, ht, eq_self]
    refine ⟨_, rfl, by omega, by omega, m0, d, hm0, hd0, oz, od, eq, id1, cap1, rest1, id2, cap2, rest2, ?_, ?_, hcap1, by omega, by omega, by omega, rfl, ?_, hcap2, by omega, by omega, by omega, by omega⟩ <;> simp -implicitDefEqProofs (disch := omega) only [go_sem, ht, eq_self]
  · rintro t ⟨h4, hH1, r5, h5, hr5, hnx1, hnx5, m, e, hm, he, om, oe, hq, i1, c1, s1, i2, c2, s2, hH5, hHi1, hc1, hi1, hi1r, hi11, h6, hHi2, hc2, hi2, hi2r, hi21, hne⟩
    have hg := gcd_calls om oe
    rw [V_D, V_D] at hg
    have hg0 : Nat.gcd m e ≠ 0 := Nat.pos_iff_ne_zero.1 (Nat.gcd_pos_of_pos_left _ (Nat.pos_of_ne_zero hm))
    have og : Ok (D (Nat.gcd m e)) := Ok_le om (Nat.le_of_dvd (Nat.pos_of_ne_zero hm) (Nat.gcd_dvd_left m e))
    have hb := bits_v og (V_D _)
    by_cases hg1 : Nat.gcd m e = 1
    · obtain ⟨e1, e2⟩ := rat_end (b := sb) he hg1
      rw [hq] at e1 e2
      have en : decide (q.num < 0) = sb := by
        rw [e1]
        cases sb <;> simp [sg]; omega
      rw [hg1, show bl 1 = 1 from (bl_one (by omega)).2 rfl] at hb
      rw [hg1] at hg
      have ea : q.num.natAbs = m := by rw [e1, sg_abs]
      rw [ea, e2]
      simp -implicitDefEqProofs (disch := omega) only [go_sem, ht, h4, h5, h6, hH1, hH5, eq_self]
      (refine pCall_own1 (mk := fun p => p) (mk_id) (by simp -implicitDefEqProofs (disch := omega) only [h4, h5, h6, hH1, hH5, hHi1, hHi2, if_pos, Nat.le_add_right, go_sem, ht, eq_self] <;> rfl) (by simp -implicitDefEqProofs (disch := omega) only [h4, h5, h6, hH1, hH5, hHi1, hHi2, if_pos, Nat.le_add_right, go_sem, ht, eq_self]) (closedL_U _) (flatL_U _) (hg) ?_; intro id5 cap5 rest5 nx5 hid5 hnx5 hcap5; simp only [put_nx, withH_nx, begP_nx, List.length_map] at hid5 hcap5; simp -implicitDefEqProofs (disch := omega) only [h4, h5, h6, hH1, hH5, hHi1, hHi2, if_pos, Nat.le_add_right, go_sem, ht, eq_self])
      ((refine pCall_view (by simp -implicitDefEqProofs (disch := omega) only [h4, h5, h6, hH1, hH5, hHi1, hHi2, if_pos, Nat.le_add_right, go_sem, ht, eq_self] <;> rfl) (by simp -implicitDefEqProofs (disch := omega) only [h4, h5, h6, hH1, hH5, hHi1, hHi2, if_pos, Nat.le_add_right, go_sem, ht, eq_self]) (by first | (apply Or.inl; simp -implicitDefEqProofs (disch := omega) only [h4, h5, h6, hH1, hH5, hHi1, hHi2, if_pos, Nat.le_add_right, go_sem, ht, eq_self]; done) | (apply Or.inr; rintro r rfl; rfl)) (hb) ?_; rintro _ nx_1 - rfl hnx_1; (try simp only [put_nx, withH_nx, begP_nx] at hnx_1); simp -implicitDefEqProofs (disch := omega) only [h4, h5, h6, hH1, hH5, hHi1, hHi2, if_pos, Nat.le_add_right, go_sem, ht, eq_self]))
      exact end_own2 (mk := mkF q) (by simp -implicitDefEqProofs (disch := omega) only [h4, h5, h6, hH1, hH5, hHi1, hHi2, en, go_sem, ht, eq_self] <;> rfl) (by omega) (by simp -implicitDefEqProofs (disch := omega) only [h4, h5, h6, hH1, hH5, hHi1, hHi2, en, go_sem, ht, eq_self] <;> rfl) (by simp -implicitDefEqProofs (disch := omega) only [h4, h5, h6, hH1, hH5, hHi1, hHi2, en, go_sem, ht, eq_self] <;> rfl) (by simp <;> omega) (by simp <;> omega) (by simp <;> omega) (by simp <;> omega)
    · have hb1 : bl (Nat.gcd m e) ≠ 1 := fun h => hg1 ((bl_one hg0).1 h)
      have hd1 := divmod_own om og
      have hd2 := divmod_own oe og
      rw [V_D, V_D, if_neg hg0, decide_eq_true hg0] at hd1 hd2
      have hm1 : m / Nat.gcd m e ≠ 0 := Nat.pos_iff_ne_zero.1 (Nat.div_pos (Nat.le_of_dvd (Nat.pos_of_ne_zero hm) (Nat.gcd_dvd_left m e)) (Nat.pos_of_ne_zero hg0))
      have he1 : e / Nat.gcd m e ≠ 0 := Nat.pos_iff_ne_zero.1 (Nat.div_pos (Nat.le_of_dvd (Nat.pos_of_ne_zero he) (Nat.gcd_dvd_right m e)) (Nat.pos_of_ne_zero hg0))
      have hst := rat_step (b := sb) hm he
      have om1 : Ok (D (m / Nat.gcd m e)) := Ok_le om (Nat.div_le_self _ _)
      have oe1 : Ok (D (e / Nat.gcd m e)) := Ok_le oe (Nat.div_le_self _ _)
      have hlt : e / Nat.gcd m e < e := Nat.div_lt_self (Nat.pos_of_ne_zero he) (by omega)
      rw [hq] at hst
      generalize m / Nat.gcd m e = m1 at *
      generalize e / Nat.gcd m e = e1 at *
      generalize m % Nat.gcd m e = r1 at *
      generalize e % Nat.gcd m e = r2 at *
      generalize bl (Nat.gcd m e) = kb at *
      generalize Nat.gcd m e = g at *
      simp -implicitDefEqProofs (disch := omega) only [go_sem, ht, h4, h5, h6, hH1, hH5, eq_self]
      (refine pCall_own1 (mk := fun p => p) (mk_id) (by simp -implicitDefEqProofs (disch := omega) only [h4, h5, h6, hH1, hH5, hHi1, hHi2, if_pos, Nat.le_add_right, go_sem, ht, eq_self] <;> rfl) (by simp -implicitDefEqProofs (disch := omega) only [h4, h5, h6, hH1, hH5, hHi1, hHi2, if_pos, Nat.le_add_right, go_sem, ht, eq_self]) (closedL_U _) (flatL_U _) (hg) ?_; intro id5 cap5 rest5 nx5 hid5 hnx5 hcap5; simp only [put_nx, withH_nx, begP_nx, List.length_map] at hid5 hcap5; simp -implicitDefEqProofs (disch := omega) only [h4, h5, h6, hH1, hH5, hHi1, hHi2, if_pos, Nat.le_add_right, go_sem, ht, eq_self])
      ((refine pCall_view (by simp -implicitDefEqProofs (disch := omega) only [h4, h5, h6, hH1, hH5, hHi1, hHi2, if_pos, Nat.le_add_right, go_sem, ht, eq_self] <;> rfl) (by simp -implicitDefEqProofs (disch := omega) only [h4, h5, h6, hH1, hH5, hHi1, hHi2, if_pos, Nat.le_add_right, go_sem, ht, eq_self]) (by first | (apply Or.inl; simp -implicitDefEqProofs (disch := omega) only [h4, h5, h6, hH1, hH5, hHi1, hHi2, if_pos, Nat.le_add_right, go_sem, ht, eq_self]; done) | (apply Or.inr; rintro r rfl; rfl)) (hb) ?_; rintro _ nx_2 - rfl hnx_2; (try simp only [put_nx, withH_nx, begP_nx] at hnx_2); simp -implicitDefEqProofs (disch := omega) only [h4, h5, h6, hH1, hH5, hHi1, hHi2, if_pos, Nat.le_add_right, go_sem, ht, eq_self]))
      (refine pCall_own2 (mk := fun p q => .tup [p, q, .val (.bool true)]) (mk_llv _) (by simp -implicitDefEqProofs (disch := omega) only [h4, h5, h6, hH1, hH5, hHi1, hHi2, if_pos, Nat.le_add_right, go_sem, ht, eq_self] <;> rfl) (by simp -implicitDefEqProofs (disch := omega) only [h4, h5, h6, hH1, hH5, hHi1, hHi2, if_pos, Nat.le_add_right, go_sem, ht, eq_self]) (closedL_U _) (flatL_U _) (closedL_U _) (flatL_U _) (hd1) ?_; intro id3 cap3 rest3 jd3 dap3 sest3 nx3 hid3 hnx3 hjd3 hmx3 hne3 hcap3 hdap3; simp only [put_nx, withH_nx, begP_nx, List.length_map] at hid3 hjd3 hcap3 hdap3; simp -implicitDefEqProofs (disch := omega) only [h4, h5, h6, hH1, hH5, hHi1, hHi2, if_pos, Nat.le_add_right, go_sem, ht, eq_self])
      (refine pCall_own2 (mk := fun p q => .tup [p, q, .val (.bool true)]) (mk_llv _) (by simp -implicitDefEqProofs (disch := omega) only [h4, h5, h6, hH1, hH5, hHi1, hHi2, if_pos, Nat.le_add_right, go_sem, ht, eq_self] <;> rfl) (by simp -implicitDefEqProofs (disch := omega) only [h4, h5, h6, hH1, hH5, hHi1, hHi2, if_pos, Nat.le_add_right, go_sem, ht, eq_self]) (closedL_U _) (flatL_U _) (closedL_U _) (flatL_U _) (hd2) ?_; intro id4 cap4 rest4 jd4 dap4 sest4 nx4 hid4 hnx4 hjd4 hmx4 hne4 hcap4 hdap4; simp only [put_nx, withH_nx, begP_nx, List.length_map] at hid4 hjd4 hcap4 hdap4; simp -implicitDefEqProofs (disch := omega) only [h4, h5, h6, hH1, hH5, hHi1, hHi2, if_pos, Nat.le_add_right, go_sem, ht, eq_self])
      refine ⟨⟨r5, rfl, hr5, by omega, by omega, m1, e1, hm1, he1, om1, oe1, hst, id3, cap3, rest3, id4, cap4, rest4, ?_, ?_, hcap3, by omega, by omega, by omega, rfl, ?_, hcap4, by omega, by omega, by omega, by omega⟩, ?_⟩
      · simp -implicitDefEqProofs (disch := omega) only [go_sem, ht, eq_self]
      · simp -implicitDefEqProofs (disch := omega) only [go_sem, ht, eq_self]
      · simp -implicitDefEqProofs (disch := omega) only [go_sem, ht, eq_self]
      · simp -implicitDefEqProofs (disch := omega) only [go_sem, ht, unU_U, V_D, h6, hHi2, eq_self]
        exact hlt
section
variable {b d : Bool} {xs ds ys es : List Nat} {q p : Rat} {k m : Nat}
theorem lowestF {z : Int} {e : Nat} (h : Wn b xs z k) (hd : Ok ds) (he : V ds = e) : PF 65 [WX b xs, SU ds] (mkRat z e) := by
  have := lowest_own (b := b) h.ok hd
  rwa [FV, h.val, he] at this
theorem rtrimF (h : Fn b xs ds q k) : PF 28 [FX b xs ds] q := by
  have hl := lowest_own (b := b) h.ox.ok h.od.ok
  rw [h.val] at hl
  rw [PF.def]
  refine PCalls.enter (n := 8) (rs := [.cell 2 28]) (tb := []) Try.func28 rfl rfl rfl (by kernel_rfl) (by kernel_rfl) (by simp) fun c hc ht => ?_
  simp -implicitDefEqProofs (disch := omega) only [go_sem, ht, eq_self]
  (refine pCall_own2 (mk := mkF q) (mk_F q) (by simp -implicitDefEqProofs (disch := omega) only [go_sem, ht, eq_self] <;> rfl) (by simp -implicitDefEqProofs (disch := omega) only [go_sem, ht, eq_self]) (closedL_U _) (flatL_U _) (closedL_U _) (flatL_U _) (hl) ?_; intro id1 cap1 rest1 jd1 dap1 sest1 nx1 hid1 hnx1 hjd1 hmx1 hne1 hcap1 hdap1; simp only [put_nx, withH_nx, begP_nx, List.length_map] at hid1 hjd1 hcap1 hdap1; simp -implicitDefEqProofs (disch := omega) only [go_sem, ht, eq_self])
  exact end_own2 (mk := mkF q) (by simp -implicitDefEqProofs (disch := omega) only [go_sem, ht, eq_self] <;> rfl) (by omega) (by simp -implicitDefEqProofs (disch := omega) only [go_sem, ht, eq_self] <;> rfl) (by simp -implicitDefEqProofs (disch := omega) only [go_sem, ht, eq_self] <;> rfl) (by simp <;> omega) (by simp <;> omega) (by simp <;> omega) (by simp <;> omega)
theorem rnegF (h : Fn b xs ds q k) : PF 35 [FX b xs ds] (-q) := by
  have ht' := rtrimF h
  have hn := wneg_calls (b := decide (q.num < 0)) (xs := D q.num.natAbs) (h.zq.num.ok (by have := h.ox.hk; omega))
  have e1 : (-q).num = -q.num := rfl
  have e2 : (-q).den = q.den := rfl
  rw [WV_C] at hn
  rw [PF.def, e1, e2]
  have en : decide ((-q).num < 0) = decide (-q.num < 0) := rfl
  generalize -q.num = z at *
  refine PCalls.enter (n := 11) (rs := [.cell 2 28]) (tb := [(2, [(0, []), (1, []), (3, []), (4, []), (2, [3, 4]), (5, []), (6, [])])]) Try.func35 rfl rfl rfl (by kernel_rfl) (by kernel_rfl) (by simp) fun c hc ht => ?_
  simp -implicitDefEqProofs (disch := omega) only [go_sem, ht, eq_self]
  (refine pCall_own2 (mk := mkF q) (mk_F q) (by simp -implicitDefEqProofs (disch := omega) only [go_sem, ht, eq_self] <;> rfl) (by simp -implicitDefEqProofs (disch := omega) only [go_sem, ht, eq_self]) (closedL_U _) (flatL_U _) (closedL_U _) (flatL_U _) (ht') ?_; intro id1 cap1 rest1 jd1 dap1 sest1 nx1 hid1 hnx1 hjd1 hmx1 hne1 hcap1 hdap1; simp only [put_nx, withH_nx, begP_nx, List.length_map] at hid1 hjd1 hcap1 hdap1; simp -implicitDefEqProofs (disch := omega) only [go_sem, ht, eq_self])
  (refine pCall_own1 (mk := mkW z) (mk_W z) (by simp -implicitDefEqProofs (disch := omega) only [if_pos, Nat.le_add_right, go_sem, ht, eq_self] <;> rfl) (by simp -implicitDefEqProofs (disch := omega) only [if_pos, Nat.le_add_right, go_sem, ht, eq_self]) (closedL_U _) (flatL_U _) (hn) ?_; intro id2 cap2 rest2 nx2 hid2 hnx2 hcap2; simp only [put_nx, withH_nx, begP_nx, List.length_map] at hid2 hcap2; simp -implicitDefEqProofs (disch := omega) only [if_pos, Nat.le_add_right, go_sem, ht, eq_self])
  exact end_own2 (mk := mkF (-q)) (by simp -implicitDefEqProofs (disch := omega) only [en, go_sem, ht, eq_self] <;> rfl) (by omega) (by simp -implicitDefEqProofs (disch := omega) only [en, go_sem, ht, eq_self] <;> rfl) (by simp -implicitDefEqProofs (disch := omega) only [en, go_sem, ht, eq_self] <;> rfl) (by simp <;> omega) (by simp <;> omega) (by simp <;> omega) (by simp <;> omega)
theorem raddF (h : Fn b xs ds q k) (g : Fn d ys es p k) (hk : 3 * k ≤ 100000) : PF 31 [FX b xs ds, FX d ys es] (q + p) := by
  have t1 := rtrimW h
  have t2 := rtrimW g
  have hq := h.zq
  have hp := g.zq
  have s1 := size_calls (ds := D p.den)
  have s2 := size_calls (ds := D q.den)
  have m1 := mulW (Wn.C hq.num (by omega)) (Wn.N hp.den (by omega))
  have m2 := mulW (Wn.C hp.num (by omega)) (Wn.N hq.den (by omega))
  have z1 := hq.num.mul (Wn.N hp.den (by omega)).z
  have z2 := hp.num.mul (Wn.N hq.den (by omega)).z
  have a1 := addW (Wn.C z1 (by omega)) (Wn.C z2 (by omega))
  have l1 := mul_v (xs := D q.den) (ys := D p.den) (.D hq.den (by omega)) (.D hp.den (by omega)) (V_D _) (V_D _)
  have o1 : Ok (D (q.den * p.den)) := .D (lt_mul hq.den hp.den) (by omega)
  have lw := lowestF (Wn.C (z1.add z2) (by omega)) o1 (V_D _)
  rw [← Rat.add_def'] at lw
  rw [PF.def]
  generalize q + p = sm at *
  generalize q.num * (p.den : Int) + p.num * (q.den : Int) = z3 at *
  generalize q.num * (p.den : Int) = z1 at *
  generalize p.num * (q.den : Int) = z2 at *
  generalize q.den * p.den = dd at *
  refine PCalls.enter (n := 30) (rs := [.cell 4 28]) (tb := [(1, [(0, []), (2, []), (1, [2]), (3, []), (4, []), (5, [])]), (2, [(0, []), (1, []), (2, []), (3, []), (6, []), (7, []), (8, []), (9, []), (4, [0, 1, 6, 7, 8, 9]), (5, [6, 7, 8, 9]), (10, [6, 7]), (11, []), (12, []), (13, [0, 1, 2, 3, 6, 7, 8, 9]), (14, [])]), (1000002, [(0, []), (1, []), (0, []), (4, []), (12, []), (31, []), (0, []), (64, []), (0, []), (256, []), (831, []), (2047, []), (4095, []), (0, []), (16383, [])]), (3, [(0, []), (1, []), (2, []), (3, []), (4, []), (5, [0]), (6, []), (7, [])])]) Try.func31 rfl rfl rfl (by kernel_rfl) (by kernel_rfl) (by simp) fun c hc ht => ?_
  simp -implicitDefEqProofs (disch := omega) only [go_sem, ht, eq_self]
  ((refine pCall_view (by simp -implicitDefEqProofs (disch := omega) only [go_sem, ht, eq_self] <;> rfl) (by simp -implicitDefEqProofs (disch := omega) only [go_sem, ht, eq_self]) (by first | (apply Or.inl; simp -implicitDefEqProofs (disch := omega) only [go_sem, ht, eq_self]; done) | (apply Or.inr; rintro r rfl; rfl)) (t1) ?_; rintro _ nx_3 - rfl hnx_3; (try simp only [put_nx, withH_nx, begP_nx] at hnx_3); simp -implicitDefEqProofs (disch := omega) only [go_sem, ht, eq_self]); (refine pCall_view (by simp -implicitDefEqProofs (disch := omega) only [go_sem, ht, eq_self] <;> rfl) (by simp -implicitDefEqProofs (disch := omega) only [go_sem, ht, eq_self]) (by first | (apply Or.inl; simp -implicitDefEqProofs (disch := omega) only [go_sem, ht, eq_self]; done) | (apply Or.inr; rintro r rfl; rfl)) (t2) ?_; rintro _ nx_4 - rfl hnx_4; (try simp only [put_nx, withH_nx, begP_nx] at hnx_4); simp -implicitDefEqProofs (disch := omega) only [go_sem, ht, eq_self]); (refine pCall_view (by simp -implicitDefEqProofs (disch := omega) only [go_sem, ht, eq_self] <;> rfl) (by simp -implicitDefEqProofs (disch := omega) only [go_sem, ht, eq_self]) (by first | (apply Or.inl; simp -implicitDefEqProofs (disch := omega) only [go_sem, ht, eq_self]; done) | (apply Or.inr; rintro r rfl; rfl)) (s1) ?_; rintro _ nx_5 - rfl hnx_5; (try simp only [put_nx, withH_nx, begP_nx] at hnx_5); simp -implicitDefEqProofs (disch := omega) only [go_sem, ht, eq_self]); (refine pCall_view (by simp -implicitDefEqProofs (disch := omega) only [go_sem, ht, eq_self] <;> rfl) (by simp -implicitDefEqProofs (disch := omega) only [go_sem, ht, eq_self]) (by first | (apply Or.inl; simp -implicitDefEqProofs (disch := omega) only [go_sem, ht, eq_self]; done) | (apply Or.inr; rintro r rfl; rfl)) (m1) ?_; rintro _ nx_6 - rfl hnx_6; (try simp only [put_nx, withH_nx, begP_nx] at hnx_6); simp -implicitDefEqProofs (disch := omega) only [go_sem, ht, eq_self]); (refine pCall_view (by simp -implicitDefEqProofs (disch := omega) only [go_sem, ht, eq_self] <;> rfl) (by simp -implicitDefEqProofs (disch := omega) only [go_sem, ht, eq_self]) (by first | (apply Or.inl; simp -implicitDefEqProofs (disch := omega) only [go_sem, ht, eq_self]; done) | (apply Or.inr; rintro r rfl; rfl)) (s2) ?_; rintro _ nx_7 - rfl hnx_7; (try simp only [put_nx, withH_nx, begP_nx] at hnx_7); simp -implicitDefEqProofs (disch := omega) only [go_sem, ht, eq_self]); (refine pCall_view (by simp -implicitDefEqProofs (disch := omega) only [go_sem, ht, eq_self] <;> rfl) (by simp -implicitDefEqProofs (disch := omega) only [go_sem, ht, eq_self]) (by first | (apply Or.inl; simp -implicitDefEqProofs (disch := omega) only [go_sem, ht, eq_self]; done) | (apply Or.inr; rintro r rfl; rfl)) (m2) ?_; rintro _ nx_8 - rfl hnx_8; (try simp only [put_nx, withH_nx, begP_nx] at hnx_8); simp -implicitDefEqProofs (disch := omega) only [go_sem, ht, eq_self]); (refine pCall_view (by simp -implicitDefEqProofs (disch := omega) only [go_sem, ht, eq_self] <;> rfl) (by simp -implicitDefEqProofs (disch := omega) only [go_sem, ht, eq_self]) (by first | (apply Or.inl; simp -implicitDefEqProofs (disch := omega) only [go_sem, ht, eq_self]; done) | (apply Or.inr; rintro r rfl; rfl)) (a1) ?_; rintro _ nx_9 - rfl hnx_9; (try simp only [put_nx, withH_nx, begP_nx] at hnx_9); simp -implicitDefEqProofs (disch := omega) only [go_sem, ht, eq_self]); (refine pCall_view (by simp -implicitDefEqProofs (disch := omega) only [go_sem, ht, eq_self] <;> rfl) (by simp -implicitDefEqProofs (disch := omega) only [go_sem, ht, eq_self]) (by first | (apply Or.inl; simp -implicitDefEqProofs (disch := omega) only [go_sem, ht, eq_self]; done) | (apply Or.inr; rintro r rfl; rfl)) (l1) ?_; rintro _ nx_10 - rfl hnx_10; (try simp only [put_nx, withH_nx, begP_nx] at hnx_10); simp -implicitDefEqProofs (disch := omega) only [go_sem, ht, eq_self]))
  (refine pCall_own2 (mk := mkF sm) (mk_F sm) (by simp -implicitDefEqProofs (disch := omega) only [go_sem, ht, eq_self] <;> rfl) (by simp -implicitDefEqProofs (disch := omega) only [go_sem, ht, eq_self]) (closedL_U _) (flatL_U _) (closedL_U _) (flatL_U _) (lw) ?_; intro id1 cap1 rest1 jd1 dap1 sest1 nx1 hid1 hnx1 hjd1 hmx1 hne1 hcap1 hdap1; simp only [put_nx, withH_nx, begP_nx, List.length_map] at hid1 hjd1 hcap1 hdap1; simp -implicitDefEqProofs (disch := omega) only [go_sem, ht, eq_self])
  exact end_own2 (mk := mkF sm) (by simp -implicitDefEqProofs (disch := omega) only [go_sem, ht, eq_self] <;> rfl) (by omega) (by simp -implicitDefEqProofs (disch := omega) only [go_sem, ht, eq_self] <;> rfl) (by simp -implicitDefEqProofs (disch := omega) only [go_sem, ht, eq_self] <;> rfl) (by simp <;> omega) (by simp <;> omega) (by simp <;> omega) (by simp <;> omega)
theorem rsubF (h : Fn b xs ds q k) (g : Fn d ys es p k) (hk : 3 * k ≤ 100000) : PF 33 [FX b xs ds, FX d ys es] (q - p) := by
  have n1 := rnegW g
  have hz : Zq k (-p) := ⟨g.zq.num.neg, g.zq.den⟩
  have a1 := raddF h (Fn.C hz (by omega) h.hk1) hk
  rw [← Rat.sub_eq_add_neg] at a1
  rw [PF.def]
  generalize q - p = z at *
  generalize -p = p' at *
  refine PCalls.enter (n := 9) (rs := [.cell 4 28]) (tb := [(1, [(0, []), (1, []), (2, [0]), (3, []), (4, [])])]) Try.func33 rfl rfl rfl (by kernel_rfl) (by kernel_rfl) (by simp) fun c hc ht => ?_
  simp -implicitDefEqProofs (disch := omega) only [go_sem, ht, eq_self]
  ((refine pCall_view (by simp -implicitDefEqProofs (disch := omega) only [go_sem, ht, eq_self] <;> rfl) (by simp -implicitDefEqProofs (disch := omega) only [go_sem, ht, eq_self]) (by first | (apply Or.inl; simp -implicitDefEqProofs (disch := omega) only [go_sem, ht, eq_self]; done) | (apply Or.inr; rintro r rfl; rfl)) (n1) ?_; rintro _ nx_11 - rfl hnx_11; (try simp only [put_nx, withH_nx, begP_nx] at hnx_11); simp -implicitDefEqProofs (disch := omega) only [go_sem, ht, eq_self]))
  (refine pCall_own2 (mk := mkF z) (mk_F z) (by simp -implicitDefEqProofs (disch := omega) only [go_sem, ht, eq_self] <;> rfl) (by simp -implicitDefEqProofs (disch := omega) only [go_sem, ht, eq_self]) (closedL_U _) (flatL_U _) (closedL_U _) (flatL_U _) (a1) ?_; intro id1 cap1 rest1 jd1 dap1 sest1 nx1 hid1 hnx1 hjd1 hmx1 hne1 hcap1 hdap1; simp only [put_nx, withH_nx, begP_nx, List.length_map] at hid1 hjd1 hcap1 hdap1; simp -implicitDefEqProofs (disch := omega) only [go_sem, ht, eq_self])
  exact end_own2 (mk := mkF z) (by simp -implicitDefEqProofs (disch := omega) only [go_sem, ht, eq_self] <;> rfl) (by omega) (by simp -implicitDefEqProofs (disch := omega) only [go_sem, ht, eq_self] <;> rfl) (by simp -implicitDefEqProofs (disch := omega) only [go_sem, ht, eq_self] <;> rfl) (by simp <;> omega) (by simp <;> omega) (by simp <;> omega) (by simp <;> omega)
theorem rmulF (h : Fn b xs ds q k) (g : Fn d ys es p k) (hk : 3 * k ≤ 100000) : PF 32 [FX b xs ds, FX d ys es] (q * p) := by
  have m1 := mulW h.ox g.ox
  have z1 := h.ox.z.mul g.ox.z
  have l1 := mul_v h.od.ok g.od.ok rfl rfl
  have o1 : Ok (D (V ds * V es)) := .D (lt_mul h.od.z g.od.z) (by omega)
  have lw := lowestF (Wn.C z1 (by omega)) o1 (V_D _)
  have e : mkRat (WV b xs * WV d ys) (V ds * V es) = q * p := by rw [← h.val, ← g.val, FV, FV, Rat.mkRat_mul_mkRat]
  rw [e] at lw
  rw [PF.def]
  generalize q * p = pr at *
  generalize WV b xs * WV d ys = z at *
  generalize V ds * V es = dd at *
  refine PCalls.enter (n := 16) (rs := [.cell 4 28]) (tb := [(1, [(0, []), (1, []), (2, []), (3, []), (5, []), (6, []), (7, []), (8, []), (4, [5, 6, 7, 8]), (9, []), (10, []), (11, [])]), (1000001, [(0, []), (1, []), (0, []), (4, []), (15, []), (0, []), (32, []), (0, []), (128, []), (511, []), (1023, []), (2047, [])])]) Try.func32 rfl rfl rfl (by kernel_rfl) (by kernel_rfl) (by simp) fun c hc ht => ?_
  simp -implicitDefEqProofs (disch := omega) only [go_sem, ht, eq_self]
  ((refine pCall_view (by simp -implicitDefEqProofs (disch := omega) only [go_sem, ht, eq_self] <;> rfl) (by simp -implicitDefEqProofs (disch := omega) only [go_sem, ht, eq_self]) (by first | (apply Or.inl; simp -implicitDefEqProofs (disch := omega) only [go_sem, ht, eq_self]; done) | (apply Or.inr; rintro r rfl; rfl)) (m1) ?_; rintro _ nx_12 - rfl hnx_12; (try simp only [put_nx, withH_nx, begP_nx] at hnx_12); simp -implicitDefEqProofs (disch := omega) only [go_sem, ht, eq_self]); (refine pCall_view (by simp -implicitDefEqProofs (disch := omega) only [go_sem, ht, eq_self] <;> rfl) (by simp -implicitDefEqProofs (disch := omega) only [go_sem, ht, eq_self]) (by first | (apply Or.inl; simp -implicitDefEqProofs (disch := omega) only [go_sem, ht, eq_self]; done) | (apply Or.inr; rintro r rfl; rfl)) (l1) ?_; rintro _ nx_13 - rfl hnx_13; (try simp only [put_nx, withH_nx, begP_nx] at hnx_13); simp -implicitDefEqProofs (disch := omega) only [go_sem, ht, eq_self]))
  (refine pCall_own2 (mk := mkF pr) (mk_F pr) (by simp -implicitDefEqProofs (disch := omega) only [go_sem, ht, eq_self] <;> rfl) (by simp -implicitDefEqProofs (disch := omega) only [go_sem, ht, eq_self]) (closedL_U _) (flatL_U _) (closedL_U _) (flatL_U _) (lw) ?_; intro id1 cap1 rest1 jd1 dap1 sest1 nx1 hid1 hnx1 hjd1 hmx1 hne1 hcap1 hdap1; simp only [put_nx, withH_nx, begP_nx, List.length_map] at hid1 hjd1 hcap1 hdap1; simp -implicitDefEqProofs (disch := omega) only [go_sem, ht, eq_self])
  exact end_own2 (mk := mkF pr) (by simp -implicitDefEqProofs (disch := omega) only [go_sem, ht, eq_self] <;> rfl) (by omega) (by simp -implicitDefEqProofs (disch := omega) only [go_sem, ht, eq_self] <;> rfl) (by simp -implicitDefEqProofs (disch := omega) only [go_sem, ht, eq_self] <;> rfl) (by simp <;> omega) (by simp <;> omega) (by simp <;> omega) (by simp <;> omega)
/-- A fraction, its lists put in, and an error's number. -/
def mkFE (q : Rat) (e : Nat) (p1 p2 : PV) : PV := .tup [.agg [.val (.bool (decide (q.num < 0))), p1, p2], .val (.int .i64 e)]
theorem mk_FE (q : Rat) (e : Nat) : Mk2 (mkFE q e) := mk_fv _ _
theorem mkFE_def (q : Rat) (e : Nat) (p1 p2 : PV) : mkFE q e p1 p2 = .tup [.agg [.val (.bool (decide (q.num < 0))), p1, p2], .val (.int .i64 e)] := rfl
attribute [go_sem] mkFE_def
theorem rdivF_zero (h : Fn d ys es 0 k) : PO2 Try.prog 36 [FX b xs ds, FX d ys es] (mkFE 0 20) [] [] := by
  have hs := rsignW h
  rw [Rat.zero_num, cZ_eq rfl] at hs
  have en0 : decide (Rat.num 0 < 0) = false := by rw [Rat.zero_num]; rfl
  refine PCalls.enter (n := 34) (rs := [.cell 4 28, .tmp 5]) (tb := [(3, [(0, []), (2, []), (1, [2]), (3, []), (4, []), (5, [])]), (4, [(0, []), (1, []), (2, []), (3, []), (4, [0, 1]), (5, []), (6, [0, 1, 2, 3]), (7, [])]), (7, [(0, []), (1, []), (2, []), (3, []), (4, []), (5, []), (6, [0]), (7, []), (8, []), (9, [])])]) Try.func36 rfl rfl rfl (by kernel_rfl) (by kernel_rfl) (by simp) fun c hc ht => ?_
  simp -implicitDefEqProofs (disch := omega) only [go_sem, ht, eq_self]
  ((refine pCall_view (by simp -implicitDefEqProofs (disch := omega) only [go_sem, ht, eq_self] <;> rfl) (by simp -implicitDefEqProofs (disch := omega) only [go_sem, ht, eq_self]) (by first | (apply Or.inl; simp -implicitDefEqProofs (disch := omega) only [go_sem, ht, eq_self]; done) | (apply Or.inr; rintro r rfl; rfl)) (hs) ?_; rintro _ nx_14 - rfl hnx_14; (try simp only [put_nx, withH_nx, begP_nx] at hnx_14); simp -implicitDefEqProofs (disch := omega) only [go_sem, ht, eq_self]))
  exact end_own2_nn (mk_FE 0 20) (by simp -implicitDefEqProofs (disch := omega) only [go_sem, ht, en0, eq_self] <;> rfl)
theorem rdivF (h : Fn b xs ds q k) (g : Fn d ys es p k) (hp : p ≠ 0) (hk : 3 * k ≤ 100000) : PO2 Try.prog 36 [FX b xs ds, FX d ys es] (mkFE (q / p) 0) ((D (q / p).num.natAbs).map U) ((D (q / p).den).map U) := by
  have hp0 : p.num ≠ 0 := fun e => hp (Rat.num_eq_zero.1 e)
  have hs := rsignW g
  have hs0 : cZ p.num 0 ≠ 0 := by unfold cZ; split <;> (try split) <;> omega
  have t1 := rtrimW h
  have t2 := rtrimW g
  have hq := h.zq
  have hz := g.zq
  have s1 := size_calls (ds := D p.den)
  have m1 := mulW (Wn.C hq.num (by omega)) (Wn.N hz.den (by omega))
  have z1 := hq.num.mul (Wn.N hz.den (by omega)).z
  have n1 := negW (Wn.C z1 (by omega))
  have l1 := mul_v (xs := D q.den) (ys := D p.num.natAbs) (.D hq.den (by omega)) (.D hz.num (by omega)) (V_D _) (V_D _)
  have o1 : Ok (D (q.den * p.num.natAbs)) := .D (lt_mul hq.den hz.num) (by omega)
  have lw1 := lowestF (Wn.C z1 (by omega)) o1 (V_D _)
  have lw2 := lowestF (Wn.C z1.neg (by omega)) o1 (V_D _)
  have e := rat_div (q := q) hp0
  generalize q / p = r at *
  generalize cZ p.num 0 = c0 at *
  generalize q.num * (p.den : Int) = z at *
  generalize q.den * p.num.natAbs = dd at *
  by_cases hneg : p.num < 0
  · rw [if_pos hneg] at e
    rw [e] at lw2
    clear lw1
    have hd := decide_eq_true hneg
    refine PCalls.enter (n := 34) (rs := [.cell 4 28, .tmp 5]) (tb := [(3, [(0, []), (2, []), (1, [2]), (3, []), (4, []), (5, [])]), (4, [(0, []), (1, []), (2, []), (3, []), (4, [0, 1]), (5, []), (6, [0, 1, 2, 3]), (7, [])]), (7, [(0, []), (1, []), (2, []), (3, []), (4, []), (5, []), (6, [0]), (7, []), (8, []), (9, [])])]) Try.func36 rfl rfl rfl (by kernel_rfl) (by kernel_rfl) (by simp) fun c hc ht => ?_
    simp -implicitDefEqProofs (disch := omega) only [go_sem, ht, eq_self]
    ((refine pCall_view (by simp -implicitDefEqProofs (disch := omega) only [hd, go_sem, ht, eq_self] <;> rfl) (by simp -implicitDefEqProofs (disch := omega) only [hd, go_sem, ht, eq_self]) (by first | (apply Or.inl; simp -implicitDefEqProofs (disch := omega) only [hd, go_sem, ht, eq_self]; done) | (apply Or.inr; rintro r rfl; rfl)) (hs) ?_; rintro _ nx_15 - rfl hnx_15; (try simp only [put_nx, withH_nx, begP_nx] at hnx_15); simp -implicitDefEqProofs (disch := omega) only [hd, go_sem, ht, eq_self]); (refine pCall_view (by simp -implicitDefEqProofs (disch := omega) only [hd, go_sem, ht, eq_self] <;> rfl) (by simp -implicitDefEqProofs (disch := omega) only [hd, go_sem, ht, eq_self]) (by first | (apply Or.inl; simp -implicitDefEqProofs (disch := omega) only [hd, go_sem, ht, eq_self]; done) | (apply Or.inr; rintro r rfl; rfl)) (t1) ?_; rintro _ nx_16 - rfl hnx_16; (try simp only [put_nx, withH_nx, begP_nx] at hnx_16); simp -implicitDefEqProofs (disch := omega) only [hd, go_sem, ht, eq_self]); (refine pCall_view (by simp -implicitDefEqProofs (disch := omega) only [hd, go_sem, ht, eq_self] <;> rfl) (by simp -implicitDefEqProofs (disch := omega) only [hd, go_sem, ht, eq_self]) (by first | (apply Or.inl; simp -implicitDefEqProofs (disch := omega) only [hd, go_sem, ht, eq_self]; done) | (apply Or.inr; rintro r rfl; rfl)) (t2) ?_; rintro _ nx_17 - rfl hnx_17; (try simp only [put_nx, withH_nx, begP_nx] at hnx_17); simp -implicitDefEqProofs (disch := omega) only [hd, go_sem, ht, eq_self]); (refine pCall_view (by simp -implicitDefEqProofs (disch := omega) only [hd, go_sem, ht, eq_self] <;> rfl) (by simp -implicitDefEqProofs (disch := omega) only [hd, go_sem, ht, eq_self]) (by first | (apply Or.inl; simp -implicitDefEqProofs (disch := omega) only [hd, go_sem, ht, eq_self]; done) | (apply Or.inr; rintro r rfl; rfl)) (s1) ?_; rintro _ nx_18 - rfl hnx_18; (try simp only [put_nx, withH_nx, begP_nx] at hnx_18); simp -implicitDefEqProofs (disch := omega) only [hd, go_sem, ht, eq_self]); (refine pCall_view (by simp -implicitDefEqProofs (disch := omega) only [hd, go_sem, ht, eq_self] <;> rfl) (by simp -implicitDefEqProofs (disch := omega) only [hd, go_sem, ht, eq_self]) (by first | (apply Or.inl; simp -implicitDefEqProofs (disch := omega) only [hd, go_sem, ht, eq_self]; done) | (apply Or.inr; rintro r rfl; rfl)) (m1) ?_; rintro _ nx_19 - rfl hnx_19; (try simp only [put_nx, withH_nx, begP_nx] at hnx_19); simp -implicitDefEqProofs (disch := omega) only [hd, go_sem, ht, eq_self]); (refine pCall_view (by simp -implicitDefEqProofs (disch := omega) only [hd, go_sem, ht, eq_self] <;> rfl) (by simp -implicitDefEqProofs (disch := omega) only [hd, go_sem, ht, eq_self]) (by first | (apply Or.inl; simp -implicitDefEqProofs (disch := omega) only [hd, go_sem, ht, eq_self]; done) | (apply Or.inr; rintro r rfl; rfl)) (n1) ?_; rintro _ nx_20 - rfl hnx_20; (try simp only [put_nx, withH_nx, begP_nx] at hnx_20); simp -implicitDefEqProofs (disch := omega) only [hd, go_sem, ht, eq_self]); (refine pCall_view (by simp -implicitDefEqProofs (disch := omega) only [hd, go_sem, ht, eq_self] <;> rfl) (by simp -implicitDefEqProofs (disch := omega) only [hd, go_sem, ht, eq_self]) (by first | (apply Or.inl; simp -implicitDefEqProofs (disch := omega) only [hd, go_sem, ht, eq_self]; done) | (apply Or.inr; rintro r rfl; rfl)) (l1) ?_; rintro _ nx_21 - rfl hnx_21; (try simp only [put_nx, withH_nx, begP_nx] at hnx_21); simp -implicitDefEqProofs (disch := omega) only [hd, go_sem, ht, eq_self]))
    (refine pCall_own2 (mk := mkF r) (mk_F r) (by simp -implicitDefEqProofs (disch := omega) only [hd, go_sem, ht, eq_self] <;> rfl) (by simp -implicitDefEqProofs (disch := omega) only [hd, go_sem, ht, eq_self]) (closedL_U _) (flatL_U _) (closedL_U _) (flatL_U _) (lw2) ?_; intro id1 cap1 rest1 jd1 dap1 sest1 nx1 hid1 hnx1 hjd1 hmx1 hne1 hcap1 hdap1; simp only [put_nx, withH_nx, begP_nx, List.length_map] at hid1 hjd1 hcap1 hdap1; simp -implicitDefEqProofs (disch := omega) only [hd, go_sem, ht, eq_self])
    exact end_own2 (mk := mkFE r 0) (by simp -implicitDefEqProofs (disch := omega) only [hd, go_sem, ht, eq_self] <;> rfl) (by omega) (by simp -implicitDefEqProofs (disch := omega) only [hd, go_sem, ht, eq_self] <;> rfl) (by simp -implicitDefEqProofs (disch := omega) only [hd, go_sem, ht, eq_self] <;> rfl) (by simp <;> omega) (by simp <;> omega) (by simp <;> omega) (by simp <;> omega)
  · rw [if_neg hneg] at e
    rw [e] at lw1
    clear lw2
    have hd := decide_eq_false hneg
    refine PCalls.enter (n := 34) (rs := [.cell 4 28, .tmp 5]) (tb := [(3, [(0, []), (2, []), (1, [2]), (3, []), (4, []), (5, [])]), (4, [(0, []), (1, []), (2, []), (3, []), (4, [0, 1]), (5, []), (6, [0, 1, 2, 3]), (7, [])]), (7, [(0, []), (1, []), (2, []), (3, []), (4, []), (5, []), (6, [0]), (7, []), (8, []), (9, [])])]) Try.func36 rfl rfl rfl (by kernel_rfl) (by kernel_rfl) (by simp) fun c hc ht => ?_
    simp -implicitDefEqProofs (disch := omega) only [go_sem, ht, eq_self]
    ((refine pCall_view (by simp -implicitDefEqProofs (disch := omega) only [hd, go_sem, ht, eq_self] <;> rfl) (by simp -implicitDefEqProofs (disch := omega) only [hd, go_sem, ht, eq_self]) (by first | (apply Or.inl; simp -implicitDefEqProofs (disch := omega) only [hd, go_sem, ht, eq_self]; done) | (apply Or.inr; rintro r rfl; rfl)) (hs) ?_; rintro _ nx_22 - rfl hnx_22; (try simp only [put_nx, withH_nx, begP_nx] at hnx_22); simp -implicitDefEqProofs (disch := omega) only [hd, go_sem, ht, eq_self]); (refine pCall_view (by simp -implicitDefEqProofs (disch := omega) only [hd, go_sem, ht, eq_self] <;> rfl) (by simp -implicitDefEqProofs (disch := omega) only [hd, go_sem, ht, eq_self]) (by first | (apply Or.inl; simp -implicitDefEqProofs (disch := omega) only [hd, go_sem, ht, eq_self]; done) | (apply Or.inr; rintro r rfl; rfl)) (t1) ?_; rintro _ nx_23 - rfl hnx_23; (try simp only [put_nx, withH_nx, begP_nx] at hnx_23); simp -implicitDefEqProofs (disch := omega) only [hd, go_sem, ht, eq_self]); (refine pCall_view (by simp -implicitDefEqProofs (disch := omega) only [hd, go_sem, ht, eq_self] <;> rfl) (by simp -implicitDefEqProofs (disch := omega) only [hd, go_sem, ht, eq_self]) (by first | (apply Or.inl; simp -implicitDefEqProofs (disch := omega) only [hd, go_sem, ht, eq_self]; done) | (apply Or.inr; rintro r rfl; rfl)) (t2) ?_; rintro _ nx_24 - rfl hnx_24; (try simp only [put_nx, withH_nx, begP_nx] at hnx_24); simp -implicitDefEqProofs (disch := omega) only [hd, go_sem, ht, eq_self]); (refine pCall_view (by simp -implicitDefEqProofs (disch := omega) only [hd, go_sem, ht, eq_self] <;> rfl) (by simp -implicitDefEqProofs (disch := omega) only [hd, go_sem, ht, eq_self]) (by first | (apply Or.inl; simp -implicitDefEqProofs (disch := omega) only [hd, go_sem, ht, eq_self]; done) | (apply Or.inr; rintro r rfl; rfl)) (s1) ?_; rintro _ nx_25 - rfl hnx_25; (try simp only [put_nx, withH_nx, begP_nx] at hnx_25); simp -implicitDefEqProofs (disch := omega) only [hd, go_sem, ht, eq_self]); (refine pCall_view (by simp -implicitDefEqProofs (disch := omega) only [hd, go_sem, ht, eq_self] <;> rfl) (by simp -implicitDefEqProofs (disch := omega) only [hd, go_sem, ht, eq_self]) (by first | (apply Or.inl; simp -implicitDefEqProofs (disch := omega) only [hd, go_sem, ht, eq_self]; done) | (apply Or.inr; rintro r rfl; rfl)) (m1) ?_; rintro _ nx_26 - rfl hnx_26; (try simp only [put_nx, withH_nx, begP_nx] at hnx_26); simp -implicitDefEqProofs (disch := omega) only [hd, go_sem, ht, eq_self]); (refine pCall_view (by simp -implicitDefEqProofs (disch := omega) only [hd, go_sem, ht, eq_self] <;> rfl) (by simp -implicitDefEqProofs (disch := omega) only [hd, go_sem, ht, eq_self]) (by first | (apply Or.inl; simp -implicitDefEqProofs (disch := omega) only [hd, go_sem, ht, eq_self]; done) | (apply Or.inr; rintro r rfl; rfl)) (l1) ?_; rintro _ nx_27 - rfl hnx_27; (try simp only [put_nx, withH_nx, begP_nx] at hnx_27); simp -implicitDefEqProofs (disch := omega) only [hd, go_sem, ht, eq_self]))
    (refine pCall_own2 (mk := mkF r) (mk_F r) (by simp -implicitDefEqProofs (disch := omega) only [hd, go_sem, ht, eq_self] <;> rfl) (by simp -implicitDefEqProofs (disch := omega) only [hd, go_sem, ht, eq_self]) (closedL_U _) (flatL_U _) (closedL_U _) (flatL_U _) (lw1) ?_; intro id1 cap1 rest1 jd1 dap1 sest1 nx1 hid1 hnx1 hjd1 hmx1 hne1 hcap1 hdap1; simp only [put_nx, withH_nx, begP_nx, List.length_map] at hid1 hjd1 hcap1 hdap1; simp -implicitDefEqProofs (disch := omega) only [hd, go_sem, ht, eq_self])
    exact end_own2 (mk := mkFE r 0) (by simp -implicitDefEqProofs (disch := omega) only [hd, go_sem, ht, eq_self] <;> rfl) (by omega) (by simp -implicitDefEqProofs (disch := omega) only [hd, go_sem, ht, eq_self] <;> rfl) (by simp -implicitDefEqProofs (disch := omega) only [hd, go_sem, ht, eq_self] <;> rfl) (by simp <;> omega) (by simp <;> omega) (by simp <;> omega) (by simp <;> omega)
theorem rfloorF (h : Fn b xs ds q k) (hk : 3 * k ≤ 100000) : PW 38 [FX b xs ds] (q.num / q.den) := by
  have t1 := rtrimW h
  have hq := h.zq
  have s1 := size_calls (ds := D q.den)
  have n1 := Wn.C hq.num (by omega)
  have n2 := Wn.N hq.den (by omega)
  have d1 := wdivmod_own n1.ok n2.ok (b := decide (q.num < 0)) (d := false) (by rw [V_D]; exact q.den_nz) (by have := n1.len; omega) (by have := n2.len; omega)
  rw [n1.val, n2.val] at d1
  unfold PW
  generalize q.num / (q.den : Int) = z1 at *
  generalize q.num % (q.den : Int) = z2 at *
  refine PCalls.enter (n := 19) (rs := [.cell 2 24]) (tb := [(2, [(0, []), (1, []), (2, []), (3, []), (4, [0, 1]), (5, []), (6, []), (7, []), (8, []), (9, []), (10, [0, 1, 2, 3, 6, 7, 8, 9]), (11, [0, 1, 2, 3, 6, 7, 8, 9]), (12, [8, 9]), (13, [9]), (14, [])]), (1000002, [(0, []), (1, []), (0, []), (4, []), (12, []), (31, []), (63, []), (127, []), (127, []), (127, []), (0, []), (0, []), (3327, []), (7679, []), (16383, [])])]) Try.func38 rfl rfl rfl (by kernel_rfl) (by kernel_rfl) (by simp) fun c hc ht => ?_
  simp -implicitDefEqProofs (disch := omega) only [go_sem, ht, eq_self]
  ((refine pCall_view (by simp -implicitDefEqProofs (disch := omega) only [go_sem, ht, eq_self] <;> rfl) (by simp -implicitDefEqProofs (disch := omega) only [go_sem, ht, eq_self]) (by first | (apply Or.inl; simp -implicitDefEqProofs (disch := omega) only [go_sem, ht, eq_self]; done) | (apply Or.inr; rintro r rfl; rfl)) (t1) ?_; rintro _ nx_28 - rfl hnx_28; (try simp only [put_nx, withH_nx, begP_nx] at hnx_28); simp -implicitDefEqProofs (disch := omega) only [go_sem, ht, eq_self]); (refine pCall_view (by simp -implicitDefEqProofs (disch := omega) only [go_sem, ht, eq_self] <;> rfl) (by simp -implicitDefEqProofs (disch := omega) only [go_sem, ht, eq_self]) (by first | (apply Or.inl; simp -implicitDefEqProofs (disch := omega) only [go_sem, ht, eq_self]; done) | (apply Or.inr; rintro r rfl; rfl)) (s1) ?_; rintro _ nx_29 - rfl hnx_29; (try simp only [put_nx, withH_nx, begP_nx] at hnx_29); simp -implicitDefEqProofs (disch := omega) only [go_sem, ht, eq_self]))
  (refine pCall_own2 (mk := mkQ z1 z2 true) (mk_Q z1 z2 true) (by simp -implicitDefEqProofs (disch := omega) only [go_sem, ht, eq_self] <;> rfl) (by simp -implicitDefEqProofs (disch := omega) only [go_sem, ht, eq_self]) (closedL_U _) (flatL_U _) (closedL_U _) (flatL_U _) (d1) ?_; intro id1 cap1 rest1 jd1 dap1 sest1 nx1 hid1 hnx1 hjd1 hmx1 hne1 hcap1 hdap1; simp only [put_nx, withH_nx, begP_nx, List.length_map] at hid1 hjd1 hcap1 hdap1; simp -implicitDefEqProofs (disch := omega) only [go_sem, ht, eq_self])
  exact end_own1 (mk := mkW z1) (by simp -implicitDefEqProofs (disch := omega) only [go_sem, ht, eq_self] <;> rfl) (by simp -implicitDefEqProofs (disch := omega) only [go_sem, ht, eq_self] <;> rfl) (by simp <;> omega) (by simp <;> omega)
/-- A number, its list put in, and a word. -/
def mkWB (z : Int) (ok : Bool) (p : PV) : PV := .tup [.agg [.val (.bool (decide (z < 0))), p], .val (.bool ok)]
theorem mk_WB (z : Int) (ok : Bool) : MkW (mkWB z ok) := mk_wv _ _
theorem mkWB_def (z : Int) (ok : Bool) (p : PV) : mkWB z ok p = .tup [.agg [.val (.bool (decide (z < 0))), p], .val (.bool ok)] := rfl
attribute [go_sem] mkWB_def
theorem rwholeF (h : Fn b xs ds q k) (hk : 3 * k ≤ 100000) : PO1 Try.prog 39 [FX b xs ds] (mkWB (if q.den = 1 then q.num else 0) (decide (q.den = 1))) ((D (if q.den = 1 then q.num else 0).natAbs).map U) := by
  have t1 := rtrimF h
  have hq := h.zq
  have hb := bits_v (xs := D q.den) (.D hq.den (by omega)) (V_D _)
  have hb1 := bl_one q.den_nz
  by_cases h1 : q.den = 1
  · rw [hb1.2 h1] at hb
    rw [if_pos h1, decide_eq_true h1]
    refine PCalls.enter (n := 13) (rs := [.cell 2 24, .tmp 3]) (tb := []) Try.func39 rfl rfl rfl (by kernel_rfl) (by kernel_rfl) (by simp) fun c hc ht => ?_
    simp -implicitDefEqProofs (disch := omega) only [go_sem, ht, eq_self]
    (refine pCall_own2 (mk := mkF q) (mk_F q) (by simp -implicitDefEqProofs (disch := omega) only [go_sem, ht, eq_self] <;> rfl) (by simp -implicitDefEqProofs (disch := omega) only [go_sem, ht, eq_self]) (closedL_U _) (flatL_U _) (closedL_U _) (flatL_U _) (t1) ?_; intro id1 cap1 rest1 jd1 dap1 sest1 nx1 hid1 hnx1 hjd1 hmx1 hne1 hcap1 hdap1; simp only [put_nx, withH_nx, begP_nx, List.length_map] at hid1 hjd1 hcap1 hdap1; simp -implicitDefEqProofs (disch := omega) only [go_sem, ht, eq_self])
    ((refine pCall_view (by simp -implicitDefEqProofs (disch := omega) only [if_pos, Nat.le_add_right, go_sem, ht, eq_self] <;> rfl) (by simp -implicitDefEqProofs (disch := omega) only [if_pos, Nat.le_add_right, go_sem, ht, eq_self]) (by first | (apply Or.inl; simp -implicitDefEqProofs (disch := omega) only [if_pos, Nat.le_add_right, go_sem, ht, eq_self]; done) | (apply Or.inr; rintro r rfl; rfl)) (hb) ?_; rintro _ nx_30 - rfl hnx_30; (try simp only [put_nx, withH_nx, begP_nx] at hnx_30); simp -implicitDefEqProofs (disch := omega) only [if_pos, Nat.le_add_right, go_sem, ht, eq_self]))
    exact end_own1 (mk := mkWB q.num true) (by simp -implicitDefEqProofs (disch := omega) only [go_sem, ht, eq_self] <;> rfl) (by simp -implicitDefEqProofs (disch := omega) only [go_sem, ht, eq_self] <;> rfl) (by simp <;> omega) (by simp <;> omega)
  · have hb2 : bl q.den ≠ 1 := fun hx => h1 (hb1.1 hx)
    rw [if_neg h1, decide_eq_false h1]
    have e0 : (D (Int.natAbs 0)).map U = [] := by rw [show Int.natAbs 0 = 0 from rfl, D_zero]; rfl
    rw [e0]
    generalize bl q.den = kb at *
    refine PCalls.enter (n := 13) (rs := [.cell 2 24, .tmp 3]) (tb := []) Try.func39 rfl rfl rfl (by kernel_rfl) (by kernel_rfl) (by simp) fun c hc ht => ?_
    simp -implicitDefEqProofs (disch := omega) only [go_sem, ht, eq_self]
    (refine pCall_own2 (mk := mkF q) (mk_F q) (by simp -implicitDefEqProofs (disch := omega) only [go_sem, ht, eq_self] <;> rfl) (by simp -implicitDefEqProofs (disch := omega) only [go_sem, ht, eq_self]) (closedL_U _) (flatL_U _) (closedL_U _) (flatL_U _) (t1) ?_; intro id1 cap1 rest1 jd1 dap1 sest1 nx1 hid1 hnx1 hjd1 hmx1 hne1 hcap1 hdap1; simp only [put_nx, withH_nx, begP_nx, List.length_map] at hid1 hjd1 hcap1 hdap1; simp -implicitDefEqProofs (disch := omega) only [go_sem, ht, eq_self])
    ((refine pCall_view (by simp -implicitDefEqProofs (disch := omega) only [if_pos, Nat.le_add_right, go_sem, ht, eq_self] <;> rfl) (by simp -implicitDefEqProofs (disch := omega) only [if_pos, Nat.le_add_right, go_sem, ht, eq_self]) (by first | (apply Or.inl; simp -implicitDefEqProofs (disch := omega) only [if_pos, Nat.le_add_right, go_sem, ht, eq_self]; done) | (apply Or.inr; rintro r rfl; rfl)) (hb) ?_; rintro _ nx_31 - rfl hnx_31; (try simp only [put_nx, withH_nx, begP_nx] at hnx_31); simp -implicitDefEqProofs (disch := omega) only [if_pos, Nat.le_add_right, go_sem, ht, eq_self]))
    exact end_ownW_nil (mk_WB 0 false) (by simp -implicitDefEqProofs (disch := omega) only [go_sem, ht, eq_self] <;> rfl)
end
end Go.Proofs.Ytgebemjmckgomaa
