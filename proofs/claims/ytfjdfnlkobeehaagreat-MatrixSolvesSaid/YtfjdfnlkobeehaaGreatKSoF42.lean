/- Part 42 of the way to the statement: the walk and what it needs. -/
import Derived.Test.YtfjdfnlkobeehaaGreatKSoF23
import Derived.Test.YtfjdfnlkobeehaaGreatKSoF31
import Derived.Test.YtfjdfnlkobeehaaGreatKSoF32
import Derived.Test.YtfjdfnlkobeehaaGreatKSoF38
section
set_option maxRecDepth 100000
set_option linter.unusedVariables false
set_option linter.unusedSimpArgs false
namespace Go.Proofs.YtfjdfnlkobeehaaGreat


def mkQ (q r : Int) (ok : Bool) (p1 p2 : PV) : PV := .tup [.agg [.val (.bool (decide (q < 0))), p1], .agg [.val (.bool (decide (r < 0))), p2], .val (.bool ok)]
theorem mkQ_def (q r : Int) (ok : Bool) (p1 p2 : PV) : mkQ q r ok p1 p2 = .tup [.agg [.val (.bool (decide (q < 0))), p1], .agg [.val (.bool (decide (r < 0))), p2], .val (.bool ok)] := rfl
attribute [go_sem] mkQ_def
end Go.Proofs.YtfjdfnlkobeehaaGreat
end

section
set_option maxRecDepth 100000
set_option linter.unusedVariables false
set_option linter.unusedSimpArgs false
namespace Go.Proofs.YtfjdfnlkobeehaaGreat


def mkF (q : Rat) (p1 p2 : PV) : PV := .agg [.val (.bool (decide (q.num < 0))), p1, p2]
theorem mk_F (q : Rat) : Mk2 (mkF q) := mk_f _
theorem mkF_def (q : Rat) (p1 p2 : PV) : mkF q p1 p2 = .agg [.val (.bool (decide (q.num < 0))), p1, p2] := rfl
attribute [go_sem] mkF_def

def PF (f : FuncId) (args : List PV) (q : Rat) : Prop := PO2 Tryz.prog f args (mkF q) ((D q.num.natAbs).map U) ((D q.den).map U)
theorem PF.def {f : FuncId} {args : List PV} {q : Rat} : PF f args q = PCalls Tryz.prog f args (fun _ => none) 0 (own2Q (mkF q) ((D q.num.natAbs).map U) ((D q.den).map U)) := rfl
set_option maxHeartbeats 2000000 in
theorem lowest_own {b : Bool} {xs ds : List Nat} (hx : Ok xs) (hd : Ok ds) : PF 62 [WX b xs, SU ds] (FV b xs ds) := by
  have ht1 := wtrim_calls hx (b := b)
  have ht2 := trim_calls hd
  have hone := one_calls
  unfold FV
  have oz : Ok (D (WV b xs).natAbs) := by rw [WV_abs]; exact hx.short
  have od := hd.short
  have ozl := oz.len
  have odl := od.len
  rw [PF.def]
  generalize WV b xs = z at *
  generalize V ds = d at *
  have e01 : D (Rat.den 0) = [1] := by rw [Rat.zero_den, D_one (by omega) (by omega)]
  have e00 : D (Rat.num 0).natAbs = [] := by rw [Rat.zero_num]; exact D_zero
  have en0 : decide (Rat.num 0 < 0) = false := by rw [Rat.zero_num]; rfl
  by_cases hd0 : d = 0
  · subst hd0
    rw [Rat.mkRat_zero, e01, e00, List.map_nil]
    have hdl : (D 0).length = 0 := D_len_zero.2 rfl
    refine PCalls.enter (n := 49) (rs := [.cell 4 52]) (tb := []) Tryz.func62 rfl rfl rfl (by kernel_rfl) (by kernel_rfl) (by simp) fun c hc ht => ?_
    simp -implicitDefEqProofs (disch := omega) only [go_sem, ht]
    (refine pCall_own1 (mk := mkW z) (mk_W z) (by simp -implicitDefEqProofs (disch := omega) only [go_sem, ht] <;> rfl) (by simp -implicitDefEqProofs (disch := omega) only [go_sem, ht]) (closedL_U _) (flatL_U _) (ht1) ?_; intro id1 cap1 rest1 nx1 hid1 hnx1 hcap1; simp only [put_nx, withH_nx, begP_nx, List.length_map] at hid1 hcap1; simp -implicitDefEqProofs (disch := omega) only [go_sem, ht])
    (refine pCall_own1 (mk := fun p => p) (mk_id) (by simp -implicitDefEqProofs (disch := omega) only [go_sem, ht] <;> rfl) (by simp -implicitDefEqProofs (disch := omega) only [go_sem, ht]) (closedL_U _) (flatL_U _) (ht2) ?_; intro id2 cap2 rest2 nx2 hid2 hnx2 hcap2; simp only [put_nx, withH_nx, begP_nx, List.length_map] at hid2 hcap2; simp -implicitDefEqProofs (disch := omega) only [go_sem, ht])
    (refine pCall_own1 (mk := fun p => p) (mk_id) (by simp -implicitDefEqProofs (disch := omega) only [go_sem, ht] <;> rfl) (by simp -implicitDefEqProofs (disch := omega) only [go_sem, ht]) (closedL_U _) (flatL_U _) (hone) ?_; intro id3 cap3 rest3 nx3 hid3 hnx3 hcap3; simp only [put_nx, withH_nx, begP_nx, List.length_map] at hid3 hcap3; simp -implicitDefEqProofs (disch := omega) only [go_sem, ht])
    exact end_own2_nl (mk_F 0) (by simp -implicitDefEqProofs (disch := omega) only [go_sem, ht, en0] <;> rfl) (by simp -implicitDefEqProofs (disch := omega) only [go_sem, ht] <;> rfl) (by simp) (by simp <;> omega) (by simp -implicitDefEqProofs (disch := omega) only [go_sem, ht] <;> omega)
  by_cases hz0 : z = 0
  · subst hz0
    have hdl : (D d).length ≠ 0 := fun h => hd0 (D_len_zero.1 h)
    have hzl : (D (Int.natAbs 0)).length = 0 := D_len_zero.2 rfl
    rw [Rat.zero_mkRat, e01, e00, List.map_nil]
    refine PCalls.enter (n := 49) (rs := [.cell 4 52]) (tb := []) Tryz.func62 rfl rfl rfl (by kernel_rfl) (by kernel_rfl) (by simp) fun c hc ht => ?_
    simp -implicitDefEqProofs (disch := omega) only [go_sem, ht]
    (refine pCall_own1 (mk := mkW 0) (mk_W 0) (by simp -implicitDefEqProofs (disch := omega) only [go_sem, ht] <;> rfl) (by simp -implicitDefEqProofs (disch := omega) only [go_sem, ht]) (closedL_U _) (flatL_U _) (ht1) ?_; intro id1 cap1 rest1 nx1 hid1 hnx1 hcap1; simp only [put_nx, withH_nx, begP_nx, List.length_map] at hid1 hcap1; simp -implicitDefEqProofs (disch := omega) only [go_sem, ht])
    (refine pCall_own1 (mk := fun p => p) (mk_id) (by simp -implicitDefEqProofs (disch := omega) only [go_sem, ht] <;> rfl) (by simp -implicitDefEqProofs (disch := omega) only [go_sem, ht]) (closedL_U _) (flatL_U _) (ht2) ?_; intro id2 cap2 rest2 nx2 hid2 hnx2 hcap2; simp only [put_nx, withH_nx, begP_nx, List.length_map] at hid2 hcap2; simp -implicitDefEqProofs (disch := omega) only [go_sem, ht])
    (refine pCall_own1 (mk := fun p => p) (mk_id) (by simp -implicitDefEqProofs (disch := omega) only [go_sem, ht] <;> rfl) (by simp -implicitDefEqProofs (disch := omega) only [go_sem, ht]) (closedL_U _) (flatL_U _) (hone) ?_; intro id3 cap3 rest3 nx3 hid3 hnx3 hcap3; simp only [put_nx, withH_nx, begP_nx, List.length_map] at hid3 hcap3; simp -implicitDefEqProofs (disch := omega) only [go_sem, ht])
    exact end_own2_nl (mk_F 0) (by simp -implicitDefEqProofs (disch := omega) only [go_sem, ht, en0] <;> rfl) (by simp -implicitDefEqProofs (disch := omega) only [go_sem, ht] <;> rfl) (by simp) (by simp <;> omega) (by simp -implicitDefEqProofs (disch := omega) only [go_sem, ht] <;> omega)
  have hdl : (D d).length ≠ 0 := fun h => hd0 (D_len_zero.1 h)
  have hzl : (D z.natAbs).length ≠ 0 := fun h => hz0 (by have := D_len_zero.1 h; omega)
  have ez : sg (decide (z < 0)) z.natAbs = z := sg_WV
  have hm0 : z.natAbs ≠ 0 := by omega
  obtain ⟨q, eq⟩ : ∃ q, mkRat z d = q := ⟨_, rfl⟩
  rw [eq]
  rw [← ez] at eq
  clear ez hz0
  refine PCalls.enter (n := 49) (rs := [.cell 4 52]) (tb := []) Tryz.func62 rfl rfl rfl (by kernel_rfl) (by kernel_rfl) (by simp) fun c hc ht => ?_
  simp -implicitDefEqProofs (disch := omega) only [go_sem, ht]
  (refine pCall_own1 (mk := mkW z) (mk_W z) (by simp -implicitDefEqProofs (disch := omega) only [go_sem, ht] <;> rfl) (by simp -implicitDefEqProofs (disch := omega) only [go_sem, ht]) (closedL_U _) (flatL_U _) (ht1) ?_; intro id1 cap1 rest1 nx1 hid1 hnx1 hcap1; simp only [put_nx, withH_nx, begP_nx, List.length_map] at hid1 hcap1; simp -implicitDefEqProofs (disch := omega) only [go_sem, ht])
  (refine pCall_own1 (mk := fun p => p) (mk_id) (by simp -implicitDefEqProofs (disch := omega) only [go_sem, ht] <;> rfl) (by simp -implicitDefEqProofs (disch := omega) only [go_sem, ht]) (closedL_U _) (flatL_U _) (ht2) ?_; intro id2 cap2 rest2 nx2 hid2 hnx2 hcap2; simp only [put_nx, withH_nx, begP_nx, List.length_map] at hid2 hcap2; simp -implicitDefEqProofs (disch := omega) only [go_sem, ht])
  clear ht1 ht2
  generalize decide (z < 0) = sb at *
  generalize z.natAbs = m0 at *
  refine LW.loopW hc ht (by kernel_rfl) (fun t => t.sl 4 = .ptr 1 0 ∧ t.H 1 = some [.val (.bool false), .val (.slice none 0 0), .val (.slice none 0 0)] ∧ ∃ r5 : Nat, t.sl 5 = .ptr r5 0 ∧ r5 ≠ 1 ∧ 1 < t.nx ∧ r5 < t.nx ∧ ∃ m e : Nat, m ≠ 0 ∧ e ≠ 0 ∧ Ok (D m) ∧ Ok (D e) ∧ mkRat (sg sb m) e = q ∧
      ∃ (i1 c1 : Nat) (s1 : List Value) (i2 c2 : Nat) (s2 : List Value), t.H r5 = some [.val (.bool sb), .ref i1 0 (D m).length c1 1] ∧ t.H i1 = some ((D m).map U ++ s1.map .val) ∧ (D m).length + s1.length = c1 ∧ i1 < t.nx ∧ i1 ≠ r5 ∧ i1 ≠ 1 ∧
      t.sl 6 = .ref i2 0 (D e).length c2 1 ∧ t.H i2 = some ((D e).map U ++ s2.map .val) ∧ (D e).length + s2.length = c2 ∧ i2 < t.nx ∧ i2 ≠ r5 ∧ i2 ≠ 1 ∧ i1 ≠ i2)
      (fun t => match t.sl 6 with | .ref i _ n _ _ => (match t.H i with | some cs => V ((cs.take n).map unU) | none => 0) | _ => 0) ?_ ?_
  · simp -implicitDefEqProofs (disch := omega) only [go_sem, ht]
    refine ⟨_, rfl, by omega, by omega, m0, d, hm0, hd0, oz, od, eq, id1, cap1, rest1, id2, cap2, rest2, ?_, ?_, hcap1, by omega, by omega, by omega, rfl, ?_, hcap2, by omega, by omega, by omega, by omega⟩ <;> simp -implicitDefEqProofs (disch := omega) only [go_sem, ht]
  · rintro t ⟨h4, hH1, r5, h5, hr5, hnx1, hnx5, m, e, hm, he, om, oe, hq, i1, c1, s1, i2, c2, s2, hH5, hHi1, hc1, hi1, hi1r, hi11, h6, hHi2, hc2, hi2, hi2r, hi21, hne⟩
    have hg := gcd_calls om oe
    rw [V_D, V_D] at hg
    have hg0 : Nat.gcd m e ≠ 0 := Nat.pos_iff_ne_zero.1 (Nat.gcd_pos_of_pos_left _ (Nat.pos_of_ne_zero hm))
    have og : Ok (D (Nat.gcd m e)) := Ok_le om (Nat.le_of_dvd (Nat.pos_of_ne_zero hm) (Nat.gcd_dvd_left m e))
    have hb := bits_v og (V_D _)
    by_cases hg1 : Nat.gcd m e = 1
    · obtain ⟨e1, e2⟩ := rat_end (b := sb) he hg1
      rw [hq] at e1 e2
      have en : decide (q.num < 0) = sb := by
        rw [e1]
        cases sb <;> simp [sg]; omega
      rw [hg1, show bl 1 = 1 from (bl_one (by omega)).2 rfl] at hb
      rw [hg1] at hg
      have ea : q.num.natAbs = m := by rw [e1, sg_abs]
      rw [ea, e2]
      simp -implicitDefEqProofs (disch := omega) only [go_sem, ht, h4, h5, h6, hH1, hH5]
      (refine pCall_own1 (mk := fun p => p) (mk_id) (by simp -implicitDefEqProofs (disch := omega) only [h4, h5, h6, hH1, hH5, hHi1, hHi2, if_pos, Nat.le_add_right, go_sem, ht] <;> rfl) (by simp -implicitDefEqProofs (disch := omega) only [h4, h5, h6, hH1, hH5, hHi1, hHi2, if_pos, Nat.le_add_right, go_sem, ht]) (closedL_U _) (flatL_U _) (hg) ?_; intro id5 cap5 rest5 nx5 hid5 hnx5 hcap5; simp only [put_nx, withH_nx, begP_nx, List.length_map] at hid5 hcap5; simp -implicitDefEqProofs (disch := omega) only [h4, h5, h6, hH1, hH5, hHi1, hHi2, if_pos, Nat.le_add_right, go_sem, ht])
      ((refine pCall_vw (by refine ⟨⟨?_, ?_⟩, ?_, ?_⟩; rotate_left 2; (first | (right; rintro r rfl; rfl) | left); all_goals ((try simp -implicitDefEqProofs (disch := omega) only [h4, h5, h6, hH1, hH5, hHi1, hHi2, if_pos, Nat.le_add_right, go_sem, ht]) <;> rfl)) (hb) ?_; rintro _ nx_1 - rfl hnx_1; simp -implicitDefEqProofs (disch := omega) only [h4, h5, h6, hH1, hH5, hHi1, hHi2, if_pos, Nat.le_add_right, go_sem, ht]))
      exact end_own2 (mk := mkF q) (by simp -implicitDefEqProofs (disch := omega) only [h4, h5, h6, hH1, hH5, hHi1, hHi2, en, go_sem, ht] <;> rfl) (by omega) (by simp -implicitDefEqProofs (disch := omega) only [h4, h5, h6, hH1, hH5, hHi1, hHi2, en, go_sem, ht] <;> rfl) (by simp -implicitDefEqProofs (disch := omega) only [h4, h5, h6, hH1, hH5, hHi1, hHi2, en, go_sem, ht] <;> rfl) (by simp <;> omega) (by simp <;> omega) (by simp <;> omega) (by simp <;> omega)
    · have hb1 : bl (Nat.gcd m e) ≠ 1 := fun h => hg1 ((bl_one hg0).1 h)
      have hd1 := divmod_own om og
      have hd2 := divmod_own oe og
      rw [V_D, V_D, if_neg hg0, decide_eq_true hg0] at hd1 hd2
      have hm1 : m / Nat.gcd m e ≠ 0 := Nat.pos_iff_ne_zero.1 (Nat.div_pos (Nat.le_of_dvd (Nat.pos_of_ne_zero hm) (Nat.gcd_dvd_left m e)) (Nat.pos_of_ne_zero hg0))
      have he1 : e / Nat.gcd m e ≠ 0 := Nat.pos_iff_ne_zero.1 (Nat.div_pos (Nat.le_of_dvd (Nat.pos_of_ne_zero he) (Nat.gcd_dvd_right m e)) (Nat.pos_of_ne_zero hg0))
      have hst := rat_step (b := sb) hm he
      have om1 : Ok (D (m / Nat.gcd m e)) := Ok_le om (Nat.div_le_self _ _)
      have oe1 : Ok (D (e / Nat.gcd m e)) := Ok_le oe (Nat.div_le_self _ _)
      have hlt : e / Nat.gcd m e < e := Nat.div_lt_self (Nat.pos_of_ne_zero he) (by omega)
      rw [hq] at hst
      generalize m / Nat.gcd m e = m1 at *
      generalize e / Nat.gcd m e = e1 at *
      generalize m % Nat.gcd m e = r1 at *
      generalize e % Nat.gcd m e = r2 at *
      generalize bl (Nat.gcd m e) = kb at *
      generalize Nat.gcd m e = g at *
      simp -implicitDefEqProofs (disch := omega) only [go_sem, ht, h4, h5, h6, hH1, hH5]
      (refine pCall_own1 (mk := fun p => p) (mk_id) (by simp -implicitDefEqProofs (disch := omega) only [h4, h5, h6, hH1, hH5, hHi1, hHi2, if_pos, Nat.le_add_right, go_sem, ht] <;> rfl) (by simp -implicitDefEqProofs (disch := omega) only [h4, h5, h6, hH1, hH5, hHi1, hHi2, if_pos, Nat.le_add_right, go_sem, ht]) (closedL_U _) (flatL_U _) (hg) ?_; intro id5 cap5 rest5 nx5 hid5 hnx5 hcap5; simp only [put_nx, withH_nx, begP_nx, List.length_map] at hid5 hcap5; simp -implicitDefEqProofs (disch := omega) only [h4, h5, h6, hH1, hH5, hHi1, hHi2, if_pos, Nat.le_add_right, go_sem, ht])
      ((refine pCall_vw (by refine ⟨⟨?_, ?_⟩, ?_, ?_⟩; rotate_left 2; (first | (right; rintro r rfl; rfl) | left); all_goals ((try simp -implicitDefEqProofs (disch := omega) only [h4, h5, h6, hH1, hH5, hHi1, hHi2, if_pos, Nat.le_add_right, go_sem, ht]) <;> rfl)) (hb) ?_; rintro _ nx_2 - rfl hnx_2; simp -implicitDefEqProofs (disch := omega) only [h4, h5, h6, hH1, hH5, hHi1, hHi2, if_pos, Nat.le_add_right, go_sem, ht]))
      (refine pCall_own2 (mk := fun p q => .tup [p, q, .val (.bool true)]) (mk_llv _) (by simp -implicitDefEqProofs (disch := omega) only [h4, h5, h6, hH1, hH5, hHi1, hHi2, if_pos, Nat.le_add_right, go_sem, ht] <;> rfl) (by simp -implicitDefEqProofs (disch := omega) only [h4, h5, h6, hH1, hH5, hHi1, hHi2, if_pos, Nat.le_add_right, go_sem, ht]) (closedL_U _) (flatL_U _) (closedL_U _) (flatL_U _) (hd1) ?_; intro id3 cap3 rest3 jd3 dap3 sest3 nx3 hid3 hnx3 hjd3 hmx3 hne3 hcap3 hdap3; simp only [put_nx, withH_nx, begP_nx, List.length_map] at hid3 hjd3 hcap3 hdap3; simp -implicitDefEqProofs (disch := omega) only [h4, h5, h6, hH1, hH5, hHi1, hHi2, if_pos, Nat.le_add_right, go_sem, ht])
      (refine pCall_own2 (mk := fun p q => .tup [p, q, .val (.bool true)]) (mk_llv _) (by simp -implicitDefEqProofs (disch := omega) only [h4, h5, h6, hH1, hH5, hHi1, hHi2, if_pos, Nat.le_add_right, go_sem, ht] <;> rfl) (by simp -implicitDefEqProofs (disch := omega) only [h4, h5, h6, hH1, hH5, hHi1, hHi2, if_pos, Nat.le_add_right, go_sem, ht]) (closedL_U _) (flatL_U _) (closedL_U _) (flatL_U _) (hd2) ?_; intro id4 cap4 rest4 jd4 dap4 sest4 nx4 hid4 hnx4 hjd4 hmx4 hne4 hcap4 hdap4; simp only [put_nx, withH_nx, begP_nx, List.length_map] at hid4 hjd4 hcap4 hdap4; simp -implicitDefEqProofs (disch := omega) only [h4, h5, h6, hH1, hH5, hHi1, hHi2, if_pos, Nat.le_add_right, go_sem, ht])
      refine ⟨⟨r5, rfl, hr5, by omega, by omega, m1, e1, hm1, he1, om1, oe1, hst, id3, cap3, rest3, id4, cap4, rest4, ?_, ?_, hcap3, by omega, by omega, by omega, rfl, ?_, hcap4, by omega, by omega, by omega, by omega⟩, ?_⟩
      · simp -implicitDefEqProofs (disch := omega) only [go_sem, ht]
      · simp -implicitDefEqProofs (disch := omega) only [go_sem, ht]
      · simp -implicitDefEqProofs (disch := omega) only [go_sem, ht]
      · simp -implicitDefEqProofs (disch := omega) only [go_sem, ht, unU_U, V_D, h6, hHi2]
        exact hlt
section
variable {b d : Bool} {xs ds ys es : List Nat} {q p : Rat} {k m : Nat}
theorem lowestF {z : Int} {e : Nat} (h : Wn b xs z k) (hd : Ok ds) (he : V ds = e) : PF 62 [WX b xs, SU ds] (mkRat z e) := by
  have := lowest_own (b := b) h.ok hd
  rwa [FV, h.val, he] at this
def mkFE (q : Rat) (e : Nat) (p1 p2 : PV) : PV := .tup [.agg [.val (.bool (decide (q.num < 0))), p1, p2], .val (.int .i64 e)]
theorem mk_FE (q : Rat) (e : Nat) : Mk2 (mkFE q e) := mk_fv _ _
theorem mkFE_def (q : Rat) (e : Nat) (p1 p2 : PV) : mkFE q e p1 p2 = .tup [.agg [.val (.bool (decide (q.num < 0))), p1, p2], .val (.int .i64 e)] := rfl
attribute [go_sem] mkFE_def




def mkWB (z : Int) (ok : Bool) (p : PV) : PV := .tup [.agg [.val (.bool (decide (z < 0))), p], .val (.bool ok)]
theorem mkWB_def (z : Int) (ok : Bool) (p : PV) : mkWB z ok p = .tup [.agg [.val (.bool (decide (z < 0))), p], .val (.bool ok)] := rfl
attribute [go_sem] mkWB_def

end
end Go.Proofs.YtfjdfnlkobeehaaGreat
end
