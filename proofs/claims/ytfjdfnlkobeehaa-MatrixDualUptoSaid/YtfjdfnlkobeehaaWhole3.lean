/- The program's whole: made, Trim, Neg, Sign, Mul, Cmp, Add, Sub. -/
import Derived.Test.YtfjdfnlkobeehaaLawB
import Derived.Test.YtfjdfnlkobeehaaLimbsB
import Derived.Test.YtfjdfnlkobeehaaNil
set_option maxRecDepth 100000
set_option linter.unusedVariables false
set_option linter.unusedSimpArgs false
namespace Go.Proofs.Ytfjdfnlkobeehaa

/-- A number with its sign, as it is read. -/
def WX (b : Bool) (xs : List Nat) : PV := .agg [.val (.bool b), SU xs]
theorem WX_def (b : Bool) (xs : List Nat) : WX b xs = .agg [.val (.bool b), SU xs] := rfl
/-- What it says. -/
def sg (b : Bool) (n : Nat) : Int := if b then -(n : Int) else n
def WV (b : Bool) (xs : List Nat) : Int := sg b (V xs)
/-- A number as it is told. -/
def WC (z : Int) : PV := WX (decide (z < 0)) (D z.natAbs)
theorem WC_def (z : Int) : WC z = .agg [.val (.bool (decide (z < 0))), SU (D z.natAbs)] := rfl
attribute [go_sem] WX_def WC_def
theorem flat_WX (b : Bool) (xs : List Nat) : flat (WX b xs) = true := by
  have := flatL_U xs
  simp [WX, SU, flat, flatL, this]
theorem sg_t (n : Nat) : sg true n = -(n : Int) := rfl
theorem sg_f (n : Nat) : sg false n = n := rfl
theorem sg_abs (b : Bool) (n : Nat) : (sg b n).natAbs = n := by cases b <;> simp [sg]
theorem sg_neg (b : Bool) (n : Nat) : decide (sg b n < 0) = (b && decide (0 < (D n).length)) := by
  have h : (D n).length = 0 ↔ n = 0 := D_len_zero
  cases b
  · simp [sg]
  · simp only [sg, if_true, Bool.true_and, decide_eq_decide]
    omega
theorem WV_C (z : Int) : WV (decide (z < 0)) (D z.natAbs) = z := by
  unfold WV sg
  rw [V_D]
  by_cases h : z < 0
  · simp only [h, decide_true, if_true]; omega
  · simp only [h, decide_false, if_false, Bool.false_eq_true]; omega
theorem WV_abs (b : Bool) (xs : List Nat) : (WV b xs).natAbs = V xs := sg_abs b _

/-- An answer that is one number, its list its own. -/
def mkW (z : Int) : PV → PV := fun p => .agg [.val (.bool (decide (z < 0))), p]
theorem mk_W (z : Int) : Mk1 (mkW z) := mk_w _
theorem mkW_def (z : Int) (p : PV) : mkW z p = .agg [.val (.bool (decide (z < 0))), p] := rfl
attribute [go_sem] mkW_def
abbrev PW (f : FuncId) (args : List PV) (z : Int) : Prop := PO1 Try.prog f args (mkW z) ((D z.natAbs).map U)
theorem PWtree {f : FuncId} {args : List PV} {z : Int} (h : PW f args z) : PT Try.prog f args (isV (WC z)) := by
  have := PO1.tree (mk_W z) (flatL_U _) h
  simpa [WC, WX, SU_def, mkW] using this
theorem PW.of {f : FuncId} {args : List PV} {z : Int} (b : Bool) (n : Nat) (h : PO1 Try.prog f args (fun p => .agg [.val (.bool (b && decide (0 < (D n).length))), p]) ((D n).map U)) (hz : sg b n = z) : PW f args z := by
  subst hz
  unfold PW mkW
  rw [sg_abs, sg_neg]
  exact h

theorem made_own {H : Nat → Option (List PV)} {nx id n cap : Nat} {b : Bool} (h : H nx = none) :
    PCalls Try.prog 47 [.val (.bool b), .ref id 0 n cap 1] H nx (memR (.agg [.val (.bool (b && decide (0 < n))), .ref id 0 n cap 1]) H) := by
  refine PCalls.enter (n := 13) (rs := [.cell 4 30]) (tb := []) Try.func47 rfl rfl rfl (by kernel_rfl) (by kernel_rfl) (by simp) fun c hc ht => ?_
  cases b
  · simp -implicitDefEqProofs (disch := omega) only [go_sem, ht, eq_self]
    refine end_mem (by simp -implicitDefEqProofs (disch := omega) only [go_sem, ht, Bool.false_and, eq_self]) fun i => ?_
    simp -implicitDefEqProofs (disch := omega) only [go_sem, ht, eq_self]
    exact upd_less h i
  · simp -implicitDefEqProofs (disch := omega) only [go_sem, ht, eq_self]
    refine end_mem (by simp -implicitDefEqProofs (disch := omega) only [go_sem, ht, Bool.true_and, Int.natCast_pos, eq_self]) fun i => ?_
    simp -implicitDefEqProofs (disch := omega) only [go_sem, ht, eq_self]
    exact upd_less h i
theorem made_calls {b : Bool} {xs : List Nat} (hx : xs.length ≤ 1099511627776) : PT Try.prog 47 [.val (.bool b), SU xs] (isV (WX (b && decide (0 < xs.length)) xs)) := by
  refine PCalls.enter (n := 13) (rs := [.cell 4 30]) (tb := []) Try.func47 rfl rfl rfl (by kernel_rfl) (by kernel_rfl) (by simp) fun c hc ht => ?_
  cases b
  · simp -implicitDefEqProofs (disch := omega) only [go_sem, ht, eq_self]
    (refine end_treeW 0 ?_; simp -implicitDefEqProofs (disch := omega) only [go_sem, ht, Bool.false_and, Bool.true_and, Int.natCast_pos, eq_self])
  · simp -implicitDefEqProofs (disch := omega) only [go_sem, ht, eq_self]
    (refine end_treeW 0 ?_; simp -implicitDefEqProofs (disch := omega) only [go_sem, ht, Bool.false_and, Bool.true_and, Int.natCast_pos, eq_self])
end Go.Proofs.Ytfjdfnlkobeehaa

namespace Go.Proofs.Ytfjdfnlkobeehaa

/-- How two numbers stand to each other. -/
def cZ (a b : Int) : Int := if a < b then -1 else if a = b then 0 else 1
theorem cZ_lt {a b : Int} (h : a < b) : cZ a b = -1 := if_pos h
theorem cZ_eq {a b : Int} (h : a = b) : cZ a b = 0 := by unfold cZ; rw [if_neg (by omega), if_pos h]
theorem cZ_gt {a b : Int} (h : b < a) : cZ a b = 1 := by unfold cZ; rw [if_neg (by omega), if_neg (by omega)]

theorem wtrim_calls {b : Bool} {xs : List Nat} (h : Ok xs) : PW 34 [WX b xs] (WV b xs) := by
  refine PW.of b (V xs) ?_ rfl
  have ht' := trim_calls h
  have := h.short.len
  refine PCalls.enter (n := 9) (rs := [.cell 2 30]) (tb := [(1, [(0, []), (1, []), (2, []), (3, []), (4, [0, 1]), (5, []), (6, [])])]) Try.func34 rfl rfl rfl (by kernel_rfl) (by kernel_rfl) (by simp) fun c hc ht => ?_
  simp -implicitDefEqProofs (disch := omega) only [go_sem, ht, eq_self]
  (refine pCall_own1 (mk := fun p => p) (mk_id) (by simp -implicitDefEqProofs (disch := omega) only [go_sem, ht, eq_self] <;> rfl) (by simp -implicitDefEqProofs (disch := omega) only [go_sem, ht, eq_self]) (closedL_U _) (flatL_U _) (ht') ?_; intro id1 cap1 rest1 nx1 hid1 hnx1 hcap1; simp only [put_nx, withH_nx, begP_nx, List.length_map] at hid1 hcap1; simp -implicitDefEqProofs (disch := omega) only [go_sem, ht, eq_self])
  (apply pCall_mem; exact (made_own (by simp -implicitDefEqProofs (disch := omega) only [go_sem, ht, eq_self] <;> rfl)); rintro _ _ nx2 ⟨rfl, rfl⟩ hnx2; (try simp only [put_nx, withH_nx, begP_nx] at hnx2); simp -implicitDefEqProofs (disch := omega) only [go_sem, ht, eq_self])
  exact end_own1 (mk := fun p => .agg [.val (.bool (b && decide (0 < (D (V xs)).length))), p]) (by simp -implicitDefEqProofs (disch := omega) only [go_sem, ht, eq_self] <;> rfl) (by simp -implicitDefEqProofs (disch := omega) only [go_sem, ht, eq_self] <;> rfl) (by simp <;> omega) (by simp <;> omega)
theorem wneg_calls {b : Bool} {xs : List Nat} (h : Ok xs) : PW 35 [WX b xs] (-WV b xs) := by
  refine PW.of (!b) (V xs) ?_ (by cases b <;> simp [WV, sg])
  have ht' := trim_calls h
  have := h.short.len
  refine PCalls.enter (n := 10) (rs := [.cell 2 30]) (tb := [(1, [(0, []), (1, []), (2, []), (3, []), (4, []), (5, [0, 1, 2]), (6, []), (7, [])])]) Try.func35 rfl rfl rfl (by kernel_rfl) (by kernel_rfl) (by simp) fun c hc ht => ?_
  simp -implicitDefEqProofs (disch := omega) only [go_sem, ht, eq_self]
  (refine pCall_own1 (mk := fun p => p) (mk_id) (by simp -implicitDefEqProofs (disch := omega) only [go_sem, ht, eq_self] <;> rfl) (by simp -implicitDefEqProofs (disch := omega) only [go_sem, ht, eq_self]) (closedL_U _) (flatL_U _) (ht') ?_; intro id1 cap1 rest1 nx1 hid1 hnx1 hcap1; simp only [put_nx, withH_nx, begP_nx, List.length_map] at hid1 hcap1; simp -implicitDefEqProofs (disch := omega) only [go_sem, ht, eq_self])
  (apply pCall_mem; exact (made_own (by simp -implicitDefEqProofs (disch := omega) only [go_sem, ht, eq_self] <;> rfl)); rintro _ _ nx2 ⟨rfl, rfl⟩ hnx2; (try simp only [put_nx, withH_nx, begP_nx] at hnx2); simp -implicitDefEqProofs (disch := omega) only [go_sem, ht, eq_self])
  exact end_own1 (mk := fun p => .agg [.val (.bool (!b && decide (0 < (D (V xs)).length))), p]) (by simp -implicitDefEqProofs (disch := omega) only [go_sem, ht, eq_self] <;> rfl) (by simp -implicitDefEqProofs (disch := omega) only [go_sem, ht, eq_self] <;> rfl) (by simp <;> omega) (by simp <;> omega)
theorem wmul_calls {b d : Bool} {xs ys : List Nat} (hx : Ok xs) (hy : Ok ys) (hp : Ok (D (V xs * V ys))) : PW 14 [WX b xs, WX d ys] (WV b xs * WV d ys) := by
  refine PW.of (b != d) (V xs * V ys) ?_ (by cases b <;> cases d <;> simp [WV, sg, Int.mul_neg, Int.neg_mul])
  have ht' := mul_calls hx hy
  have := hp.len
  refine PCalls.enter (n := 16) (rs := [.cell 4 30]) (tb := [(1, [(0, []), (1, []), (2, []), (3, []), (4, []), (5, []), (6, []), (7, []), (8, []), (9, [0, 1, 2, 3, 4]), (10, []), (11, [])]), (1000001, [(0, []), (1, []), (0, []), (4, []), (15, []), (0, []), (32, []), (0, []), (128, []), (480, []), (1023, []), (2047, [])])]) Try.func14 rfl rfl rfl (by kernel_rfl) (by kernel_rfl) (by simp) fun c hc ht => ?_
  simp -implicitDefEqProofs (disch := omega) only [go_sem, ht, eq_self]
  (refine pCall_own1 (mk := fun p => p) (mk_id) (by simp -implicitDefEqProofs (disch := omega) only [go_sem, ht, eq_self] <;> rfl) (by simp -implicitDefEqProofs (disch := omega) only [go_sem, ht, eq_self]) (closedL_U _) (flatL_U _) (ht') ?_; intro id1 cap1 rest1 nx1 hid1 hnx1 hcap1; simp only [put_nx, withH_nx, begP_nx, List.length_map] at hid1 hcap1; simp -implicitDefEqProofs (disch := omega) only [go_sem, ht, eq_self])
  (apply pCall_mem; exact (made_own (by simp -implicitDefEqProofs (disch := omega) only [go_sem, ht, eq_self] <;> rfl)); rintro _ _ nx2 ⟨rfl, rfl⟩ hnx2; (try simp only [put_nx, withH_nx, begP_nx] at hnx2); simp -implicitDefEqProofs (disch := omega) only [go_sem, ht, eq_self])
  exact end_own1 (mk := fun p => .agg [.val (.bool ((b != d) && decide (0 < (D (V xs * V ys)).length))), p]) (by simp -implicitDefEqProofs (disch := omega) only [go_sem, ht, eq_self] <;> rfl) (by simp -implicitDefEqProofs (disch := omega) only [go_sem, ht, eq_self] <;> rfl) (by simp <;> omega) (by simp <;> omega)
theorem wgcd_calls {b d : Bool} {xs ys : List Nat} (hx : Ok xs) (hy : Ok ys) (hp : Ok (D (Nat.gcd (V xs) (V ys)))) : PW 79 [WX b xs, WX d ys] (Nat.gcd (V xs) (V ys) : Nat) := by
  refine PW.of false (Nat.gcd (V xs) (V ys)) ?_ rfl
  have ht' := gcd_calls hx hy
  have := hp.len
  refine PCalls.enter (n := 11) (rs := [.cell 4 30]) (tb := []) Try.func79 rfl rfl rfl (by kernel_rfl) (by kernel_rfl) (by simp) fun c hc ht => ?_
  simp -implicitDefEqProofs (disch := omega) only [go_sem, ht, eq_self]
  (refine pCall_own1 (mk := fun p => p) (mk_id) (by simp -implicitDefEqProofs (disch := omega) only [go_sem, ht, eq_self] <;> rfl) (by simp -implicitDefEqProofs (disch := omega) only [go_sem, ht, eq_self]) (closedL_U _) (flatL_U _) (ht') ?_; intro id1 cap1 rest1 nx1 hid1 hnx1 hcap1; simp only [put_nx, withH_nx, begP_nx, List.length_map] at hid1 hcap1; simp -implicitDefEqProofs (disch := omega) only [go_sem, ht, eq_self])
  (apply pCall_mem; exact (made_own (by simp -implicitDefEqProofs (disch := omega) only [go_sem, ht, eq_self] <;> rfl)); rintro _ _ nx2 ⟨rfl, rfl⟩ hnx2; (try simp only [put_nx, withH_nx, begP_nx] at hnx2); simp -implicitDefEqProofs (disch := omega) only [go_sem, ht, eq_self])
  exact end_own1 (mk := fun p => .agg [.val (.bool (false && decide (0 < (D (Nat.gcd (V xs) (V ys))).length))), p]) (by simp -implicitDefEqProofs (disch := omega) only [go_sem, ht, eq_self] <;> rfl) (by simp -implicitDefEqProofs (disch := omega) only [go_sem, ht, eq_self] <;> rfl) (by simp <;> omega) (by simp <;> omega)
theorem wof_calls {v : Int} (h0 : -9223372036854775808 ≤ v) (h1 : v ≤ 9223372036854775807) : PW 15 [.val (.int .i64 v)] v := by
  by_cases hn : v < 0
  · refine PW.of true v.natAbs ?_ (by simp only [sg, if_true]; omega)
    have ht' := small_calls (n := v.natAbs) (by omega)
    have e : (v.natAbs : Int) = 0 - (v + 1) + 1 := by omega
    rw [e] at ht'
    have hl : Ok (D v.natAbs) := .D (k := 2) (by omega) (by omega)
    have := hl.len
    refine PCalls.enter (n := 16) (rs := [.cell 2 30]) (tb := []) Try.func15 rfl rfl rfl (by kernel_rfl) (by kernel_rfl) (by simp) fun c hc ht => ?_
    simp -implicitDefEqProofs (disch := omega) only [go_sem, ht, eq_self]
    (refine pCall_own1 (mk := fun p => p) (mk_id) (by simp -implicitDefEqProofs (disch := omega) only [go_sem, ht, eq_self] <;> rfl) (by simp -implicitDefEqProofs (disch := omega) only [go_sem, ht, eq_self]) (closedL_U _) (flatL_U _) (ht') ?_; intro id1 cap1 rest1 nx1 hid1 hnx1 hcap1; simp only [put_nx, withH_nx, begP_nx, List.length_map] at hid1 hcap1; simp -implicitDefEqProofs (disch := omega) only [go_sem, ht, eq_self])
    (apply pCall_mem; exact (made_own (by simp -implicitDefEqProofs (disch := omega) only [go_sem, ht, eq_self] <;> rfl)); rintro _ _ nx2 ⟨rfl, rfl⟩ hnx2; (try simp only [put_nx, withH_nx, begP_nx] at hnx2); simp -implicitDefEqProofs (disch := omega) only [go_sem, ht, eq_self])
    exact end_own1 (mk := fun p => .agg [.val (.bool (true && decide (0 < (D v.natAbs).length))), p]) (by simp -implicitDefEqProofs (disch := omega) only [go_sem, ht, eq_self] <;> rfl) (by simp -implicitDefEqProofs (disch := omega) only [go_sem, ht, eq_self] <;> rfl) (by simp <;> omega) (by simp <;> omega)
  · refine PW.of false v.natAbs ?_ (by simp [sg]; omega)
    have ht' := small_calls (n := v.natAbs) (by omega)
    have e : (v.natAbs : Int) = v := by omega
    rw [e] at ht'
    have hl : Ok (D v.natAbs) := .D (k := 2) (by omega) (by omega)
    have := hl.len
    refine PCalls.enter (n := 16) (rs := [.cell 2 30]) (tb := []) Try.func15 rfl rfl rfl (by kernel_rfl) (by kernel_rfl) (by simp) fun c hc ht => ?_
    simp -implicitDefEqProofs (disch := omega) only [go_sem, ht, eq_self]
    (refine pCall_own1 (mk := fun p => p) (mk_id) (by simp -implicitDefEqProofs (disch := omega) only [go_sem, ht, eq_self] <;> rfl) (by simp -implicitDefEqProofs (disch := omega) only [go_sem, ht, eq_self]) (closedL_U _) (flatL_U _) (ht') ?_; intro id1 cap1 rest1 nx1 hid1 hnx1 hcap1; simp only [put_nx, withH_nx, begP_nx, List.length_map] at hid1 hcap1; simp -implicitDefEqProofs (disch := omega) only [go_sem, ht, eq_self])
    (apply pCall_mem; exact (made_own (by simp -implicitDefEqProofs (disch := omega) only [go_sem, ht, eq_self] <;> rfl)); rintro _ _ nx2 ⟨rfl, rfl⟩ hnx2; (try simp only [put_nx, withH_nx, begP_nx] at hnx2); simp -implicitDefEqProofs (disch := omega) only [go_sem, ht, eq_self])
    exact end_own1 (mk := fun p => .agg [.val (.bool (false && decide (0 < (D v.natAbs).length))), p]) (by simp -implicitDefEqProofs (disch := omega) only [go_sem, ht, eq_self] <;> rfl) (by simp -implicitDefEqProofs (disch := omega) only [go_sem, ht, eq_self] <;> rfl) (by simp <;> omega) (by simp <;> omega)
theorem wsign_calls {b : Bool} {xs : List Nat} (h : Ok xs) : PT Try.prog 33 [WX b xs] (isV (.val (.int .i64 (cZ (WV b xs) 0)))) := by
  have hb := bits_calls h
  by_cases h0 : V xs = 0
  · rw [h0, bl_zero] at hb
    rw [cZ_eq (by rw [WV, h0]; cases b <;> rfl)]
    refine PCalls.enter (n := 11) (rs := [.tmp 2]) (tb := []) Try.func33 rfl rfl rfl (by kernel_rfl) (by kernel_rfl) (by simp) fun c hc ht => ?_
    simp -implicitDefEqProofs (disch := omega) only [go_sem, ht, eq_self]
    (refine pCall_view (by simp -implicitDefEqProofs (disch := omega) only [go_sem, ht, eq_self] <;> rfl) (by simp -implicitDefEqProofs (disch := omega) only [go_sem, ht, eq_self]) (by first | (apply Or.inl; simp -implicitDefEqProofs (disch := omega) only [go_sem, ht, eq_self]; done) | (apply Or.inr; rintro r rfl; rfl)) (hb) ?_; rintro _ nx - rfl hnx; (try simp only [put_nx, withH_nx, begP_nx] at hnx); simp -implicitDefEqProofs (disch := omega) only [go_sem, ht, eq_self])
    (refine end_treeW 0 ?_; simp -implicitDefEqProofs (disch := omega) only [go_sem, ht, eq_self])
  · have hp := bl_pos' h0
    generalize bl (V xs) = k at *
    cases b
    · rw [cZ_gt (by simp [WV, sg]; omega)]
      refine PCalls.enter (n := 11) (rs := [.tmp 2]) (tb := []) Try.func33 rfl rfl rfl (by kernel_rfl) (by kernel_rfl) (by simp) fun c hc ht => ?_
      simp -implicitDefEqProofs (disch := omega) only [go_sem, ht, eq_self]
      (refine pCall_view (by simp -implicitDefEqProofs (disch := omega) only [go_sem, ht, eq_self] <;> rfl) (by simp -implicitDefEqProofs (disch := omega) only [go_sem, ht, eq_self]) (by first | (apply Or.inl; simp -implicitDefEqProofs (disch := omega) only [go_sem, ht, eq_self]; done) | (apply Or.inr; rintro r rfl; rfl)) (hb) ?_; rintro _ nx - rfl hnx; (try simp only [put_nx, withH_nx, begP_nx] at hnx); simp -implicitDefEqProofs (disch := omega) only [go_sem, ht, eq_self])
      (refine end_treeW 0 ?_; simp -implicitDefEqProofs (disch := omega) only [go_sem, ht, eq_self])
    · rw [cZ_lt (by simp [WV, sg]; omega)]
      refine PCalls.enter (n := 11) (rs := [.tmp 2]) (tb := []) Try.func33 rfl rfl rfl (by kernel_rfl) (by kernel_rfl) (by simp) fun c hc ht => ?_
      simp -implicitDefEqProofs (disch := omega) only [go_sem, ht, eq_self]
      (refine pCall_view (by simp -implicitDefEqProofs (disch := omega) only [go_sem, ht, eq_self] <;> rfl) (by simp -implicitDefEqProofs (disch := omega) only [go_sem, ht, eq_self]) (by first | (apply Or.inl; simp -implicitDefEqProofs (disch := omega) only [go_sem, ht, eq_self]; done) | (apply Or.inr; rintro r rfl; rfl)) (hb) ?_; rintro _ nx - rfl hnx; (try simp only [put_nx, withH_nx, begP_nx] at hnx); simp -implicitDefEqProofs (disch := omega) only [go_sem, ht, eq_self])
      (refine end_treeW 0 ?_; simp -implicitDefEqProofs (disch := omega) only [go_sem, ht, eq_self])
theorem wlimbs_calls {b : Bool} {xs : List Nat} (h : Ok xs) : PT Try.prog 36 [WX b xs] (isV (.val (.int .i64 ((bl (V xs) + 31) / 32 : Nat)))) := by
  have hb := bits_calls h
  have hk : bl (V xs) ≤ 35184372088832 := by
    have h1 := h.len
    have h2 : bl (V xs) ≤ 32 * xs.length := bl_le.2 (by rw [← pow32]; exact V_lt h.lm)
    omega
  generalize bl (V xs) = k at *
  refine PCalls.enter (n := 8) (rs := [.tmp 2]) (tb := []) Try.func36 rfl rfl rfl (by kernel_rfl) (by kernel_rfl) (by simp) fun c hc ht => ?_
  simp -implicitDefEqProofs (disch := omega) only [go_sem, ht, eq_self]
  (refine pCall_view (by simp -implicitDefEqProofs (disch := omega) only [go_sem, ht, eq_self] <;> rfl) (by simp -implicitDefEqProofs (disch := omega) only [go_sem, ht, eq_self]) (by first | (apply Or.inl; simp -implicitDefEqProofs (disch := omega) only [go_sem, ht, eq_self]; done) | (apply Or.inr; rintro r rfl; rfl)) (hb) ?_; rintro _ nx - rfl hnx; (try simp only [put_nx, withH_nx, begP_nx] at hnx); simp -implicitDefEqProofs (disch := omega) only [go_sem, ht, eq_self])
  (refine end_treeW 0 ?_; simp -implicitDefEqProofs (disch := omega) only [go_sem, ht, eq_self])
end Go.Proofs.Ytfjdfnlkobeehaa

namespace Go.Proofs.Ytfjdfnlkobeehaa

theorem cZ_nat (a b : Nat) : cmpI a b = cZ a b := by
  rcases Nat.lt_trichotomy a b with h | h | h
  · rw [cmpI_lt h, cZ_lt (by omega)]
  · rw [cmpI_eq h, cZ_eq (by omega)]
  · rw [cmpI_gt h, cZ_gt (by omega)]
theorem wcmp_calls {b d : Bool} {xs ys : List Nat} (hx : Ok xs) (hy : Ok ys) : PT Try.prog 86 [WX b xs, WX d ys] (isV (.val (.int .i64 (cZ (WV b xs) (WV d ys))))) := by
  have sx := wsign_calls (b := b) hx
  have sy := wsign_calls (b := d) hy
  have cxy := cmp_calls hx hy
  have cyx := cmp_calls hy hx
  have ex : WV b xs = if b then -(V xs : Int) else V xs := rfl
  have ey : WV d ys = if d then -(V ys : Int) else V ys := rfl
  rw [cZ_nat] at cxy cyx
  generalize WV b xs = x at *
  generalize WV d ys = y at *
  by_cases h1 : cZ x 0 < cZ y 0
  · have : cZ x y = -1 := by
      refine cZ_lt ?_
      unfold cZ at h1
      split at h1 <;> split at h1 <;> (try split at h1) <;> (try split at h1) <;> omega
    rw [this]
    generalize cZ x 0 = k at *
    generalize cZ y 0 = m at *
    refine PCalls.enter (n := 32) (rs := [.tmp 4]) (tb := [(1, [(0, []), (2, []), (1, [2]), (3, []), (4, []), (5, [])])]) Try.func86 rfl rfl rfl (by kernel_rfl) (by kernel_rfl) (by simp) fun c hc ht => ?_
    simp -implicitDefEqProofs (disch := omega) only [go_sem, ht, eq_self]
    (refine pCall_view (by simp -implicitDefEqProofs (disch := omega) only [go_sem, ht, eq_self] <;> rfl) (by simp -implicitDefEqProofs (disch := omega) only [go_sem, ht, eq_self]) (by first | (apply Or.inl; simp -implicitDefEqProofs (disch := omega) only [go_sem, ht, eq_self]; done) | (apply Or.inr; rintro r rfl; rfl)) (sx) ?_; rintro _ nx - rfl hnx; (try simp only [put_nx, withH_nx, begP_nx] at hnx); simp -implicitDefEqProofs (disch := omega) only [go_sem, ht, eq_self])
    (refine pCall_view (by simp -implicitDefEqProofs (disch := omega) only [go_sem, ht, eq_self] <;> rfl) (by simp -implicitDefEqProofs (disch := omega) only [go_sem, ht, eq_self]) (by first | (apply Or.inl; simp -implicitDefEqProofs (disch := omega) only [go_sem, ht, eq_self]; done) | (apply Or.inr; rintro r rfl; rfl)) (sy) ?_; rintro _ nx - rfl hnx; (try simp only [put_nx, withH_nx, begP_nx] at hnx); simp -implicitDefEqProofs (disch := omega) only [go_sem, ht, eq_self])
    (refine end_treeW 0 ?_; simp -implicitDefEqProofs (disch := omega) only [go_sem, ht, eq_self])
  by_cases h2 : cZ y 0 < cZ x 0
  · have : cZ x y = 1 := by
      refine cZ_gt ?_
      unfold cZ at h2
      split at h2 <;> split at h2 <;> (try split at h2) <;> (try split at h2) <;> omega
    rw [this]
    generalize cZ x 0 = k at *
    generalize cZ y 0 = m at *
    refine PCalls.enter (n := 32) (rs := [.tmp 4]) (tb := [(1, [(0, []), (2, []), (1, [2]), (3, []), (4, []), (5, [])])]) Try.func86 rfl rfl rfl (by kernel_rfl) (by kernel_rfl) (by simp) fun c hc ht => ?_
    simp -implicitDefEqProofs (disch := omega) only [go_sem, ht, eq_self]
    (refine pCall_view (by simp -implicitDefEqProofs (disch := omega) only [go_sem, ht, eq_self] <;> rfl) (by simp -implicitDefEqProofs (disch := omega) only [go_sem, ht, eq_self]) (by first | (apply Or.inl; simp -implicitDefEqProofs (disch := omega) only [go_sem, ht, eq_self]; done) | (apply Or.inr; rintro r rfl; rfl)) (sx) ?_; rintro _ nx - rfl hnx; (try simp only [put_nx, withH_nx, begP_nx] at hnx); simp -implicitDefEqProofs (disch := omega) only [go_sem, ht, eq_self])
    (refine pCall_view (by simp -implicitDefEqProofs (disch := omega) only [go_sem, ht, eq_self] <;> rfl) (by simp -implicitDefEqProofs (disch := omega) only [go_sem, ht, eq_self]) (by first | (apply Or.inl; simp -implicitDefEqProofs (disch := omega) only [go_sem, ht, eq_self]; done) | (apply Or.inr; rintro r rfl; rfl)) (sy) ?_; rintro _ nx - rfl hnx; (try simp only [put_nx, withH_nx, begP_nx] at hnx); simp -implicitDefEqProofs (disch := omega) only [go_sem, ht, eq_self])
    (refine end_treeW 0 ?_; simp -implicitDefEqProofs (disch := omega) only [go_sem, ht, eq_self])
  by_cases h3 : x < 0
  · have hy0 : y < 0 := by
      rw [cZ_lt h3] at h1 h2
      unfold cZ at h1 h2
      split at h1 <;> omega
    have : cZ x y = cZ (V ys : Int) (V xs : Int) := by
      have e1 : x = -V xs := by cases b <;> simp at ex <;> omega
      have e2 : y = -V ys := by cases d <;> simp at ey <;> omega
      rcases Int.lt_trichotomy x y with h | h | h
      · rw [cZ_lt h, cZ_lt (by omega)]
      · rw [cZ_eq h, cZ_eq (by omega)]
      · rw [cZ_gt h, cZ_gt (by omega)]
    rw [this]
    rw [cZ_lt h3] at sx
    rw [cZ_lt hy0] at sy
    generalize cZ (V ys : Int) (V xs : Int) = k at *
    refine PCalls.enter (n := 32) (rs := [.tmp 4]) (tb := [(1, [(0, []), (2, []), (1, [2]), (3, []), (4, []), (5, [])])]) Try.func86 rfl rfl rfl (by kernel_rfl) (by kernel_rfl) (by simp) fun c hc ht => ?_
    simp -implicitDefEqProofs (disch := omega) only [go_sem, ht, eq_self]
    (refine pCall_view (by simp -implicitDefEqProofs (disch := omega) only [go_sem, ht, eq_self] <;> rfl) (by simp -implicitDefEqProofs (disch := omega) only [go_sem, ht, eq_self]) (by first | (apply Or.inl; simp -implicitDefEqProofs (disch := omega) only [go_sem, ht, eq_self]; done) | (apply Or.inr; rintro r rfl; rfl)) (sx) ?_; rintro _ nx - rfl hnx; (try simp only [put_nx, withH_nx, begP_nx] at hnx); simp -implicitDefEqProofs (disch := omega) only [go_sem, ht, eq_self])
    (refine pCall_view (by simp -implicitDefEqProofs (disch := omega) only [go_sem, ht, eq_self] <;> rfl) (by simp -implicitDefEqProofs (disch := omega) only [go_sem, ht, eq_self]) (by first | (apply Or.inl; simp -implicitDefEqProofs (disch := omega) only [go_sem, ht, eq_self]; done) | (apply Or.inr; rintro r rfl; rfl)) (sy) ?_; rintro _ nx - rfl hnx; (try simp only [put_nx, withH_nx, begP_nx] at hnx); simp -implicitDefEqProofs (disch := omega) only [go_sem, ht, eq_self])
    (refine pCall_view (by simp -implicitDefEqProofs (disch := omega) only [go_sem, ht, eq_self] <;> rfl) (by simp -implicitDefEqProofs (disch := omega) only [go_sem, ht, eq_self]) (by first | (apply Or.inl; simp -implicitDefEqProofs (disch := omega) only [go_sem, ht, eq_self]; done) | (apply Or.inr; rintro r rfl; rfl)) (cyx) ?_; rintro _ nx - rfl hnx; (try simp only [put_nx, withH_nx, begP_nx] at hnx); simp -implicitDefEqProofs (disch := omega) only [go_sem, ht, eq_self])
    (refine end_treeW 0 ?_; simp -implicitDefEqProofs (disch := omega) only [go_sem, ht, eq_self])
  · have hk : ¬ cZ x 0 < 0 := by unfold cZ; split <;> (try split) <;> omega
    have he : cZ x 0 = cZ y 0 := by omega
    have : cZ x y = cZ (V xs : Int) (V ys : Int) := by
      have hy0 : ¬ y < 0 := fun h => by rw [cZ_lt h] at he; omega
      have e1 : x = V xs := by cases b <;> simp at ex <;> omega
      have e2 : y = V ys := by cases d <;> simp at ey <;> omega
      rw [e1, e2]
    rw [this]
    rw [← he] at sy
    generalize cZ (V xs : Int) (V ys : Int) = k at *
    generalize cZ x 0 = m at *
    refine PCalls.enter (n := 32) (rs := [.tmp 4]) (tb := [(1, [(0, []), (2, []), (1, [2]), (3, []), (4, []), (5, [])])]) Try.func86 rfl rfl rfl (by kernel_rfl) (by kernel_rfl) (by simp) fun c hc ht => ?_
    simp -implicitDefEqProofs (disch := omega) only [go_sem, ht, eq_self]
    (refine pCall_view (by simp -implicitDefEqProofs (disch := omega) only [go_sem, ht, eq_self] <;> rfl) (by simp -implicitDefEqProofs (disch := omega) only [go_sem, ht, eq_self]) (by first | (apply Or.inl; simp -implicitDefEqProofs (disch := omega) only [go_sem, ht, eq_self]; done) | (apply Or.inr; rintro r rfl; rfl)) (sx) ?_; rintro _ nx - rfl hnx; (try simp only [put_nx, withH_nx, begP_nx] at hnx); simp -implicitDefEqProofs (disch := omega) only [go_sem, ht, eq_self])
    (refine pCall_view (by simp -implicitDefEqProofs (disch := omega) only [go_sem, ht, eq_self] <;> rfl) (by simp -implicitDefEqProofs (disch := omega) only [go_sem, ht, eq_self]) (by first | (apply Or.inl; simp -implicitDefEqProofs (disch := omega) only [go_sem, ht, eq_self]; done) | (apply Or.inr; rintro r rfl; rfl)) (sy) ?_; rintro _ nx - rfl hnx; (try simp only [put_nx, withH_nx, begP_nx] at hnx); simp -implicitDefEqProofs (disch := omega) only [go_sem, ht, eq_self])
    (refine pCall_view (by simp -implicitDefEqProofs (disch := omega) only [go_sem, ht, eq_self] <;> rfl) (by simp -implicitDefEqProofs (disch := omega) only [go_sem, ht, eq_self]) (by first | (apply Or.inl; simp -implicitDefEqProofs (disch := omega) only [go_sem, ht, eq_self]; done) | (apply Or.inr; rintro r rfl; rfl)) (cxy) ?_; rintro _ nx - rfl hnx; (try simp only [put_nx, withH_nx, begP_nx] at hnx); simp -implicitDefEqProofs (disch := omega) only [go_sem, ht, eq_self])
    (refine end_treeW 0 ?_; simp -implicitDefEqProofs (disch := omega) only [go_sem, ht, eq_self])

theorem wadd_calls {b d : Bool} {xs ys : List Nat} (hx : Ok xs) (hy : Ok ys) (hp : Ok (D (V xs + V ys))) : PW 16 [WX b xs, WX d ys] (WV b xs + WV d ys) := by
  by_cases hbd : b = d
  · subst hbd
    refine PW.of b (V xs + V ys) ?_ (by cases b <;> simp [WV, sg]; omega)
    have ht' := add_calls hx hy
    have := hp.len
    refine PCalls.enter (n := 47) (rs := [.cell 4 30]) (tb := [(2, [(0, []), (1, []), (2, []), (3, []), (4, []), (5, []), (6, [0, 1]), (7, []), (8, [])])]) Try.func16 rfl rfl rfl (by kernel_rfl) (by kernel_rfl) (by simp) fun c hc ht => ?_
    simp -implicitDefEqProofs (disch := omega) only [go_sem, ht, eq_self]
    (refine pCall_own1 (mk := fun p => p) (mk_id) (by simp -implicitDefEqProofs (disch := omega) only [go_sem, ht, eq_self] <;> rfl) (by simp -implicitDefEqProofs (disch := omega) only [go_sem, ht, eq_self]) (closedL_U _) (flatL_U _) (ht') ?_; intro id1 cap1 rest1 nx1 hid1 hnx1 hcap1; simp only [put_nx, withH_nx, begP_nx, List.length_map] at hid1 hcap1; simp -implicitDefEqProofs (disch := omega) only [go_sem, ht, eq_self])
    (apply pCall_mem; exact (made_own (by simp -implicitDefEqProofs (disch := omega) only [go_sem, ht, eq_self] <;> rfl)); rintro _ _ nx2 ⟨rfl, rfl⟩ hnx2; (try simp only [put_nx, withH_nx, begP_nx] at hnx2); simp -implicitDefEqProofs (disch := omega) only [go_sem, ht, eq_self])
    exact end_own1 (mk := fun p => .agg [.val (.bool (b && decide (0 < (D (V xs + V ys)).length))), p]) (by simp -implicitDefEqProofs (disch := omega) only [go_sem, ht, eq_self] <;> rfl) (by simp -implicitDefEqProofs (disch := omega) only [go_sem, ht, eq_self] <;> rfl) (by simp <;> omega) (by simp <;> omega)
  · have hbd' : (b == d) = false := by simpa using hbd
    have ht' := sub_calls hx hy
    have l1 := (Ok_le hx.short (Nat.sub_le (V xs) (V ys))).len
    by_cases hle : V ys ≤ V xs
    · refine PW.of b (V xs - V ys) ?_ (by cases b <;> cases d <;> simp [WV, sg] at * <;> omega)
      rw [decide_eq_true hle] at ht'
      refine PCalls.enter (n := 47) (rs := [.cell 4 30]) (tb := [(2, [(0, []), (1, []), (2, []), (3, []), (4, []), (5, []), (6, [0, 1]), (7, []), (8, [])])]) Try.func16 rfl rfl rfl (by kernel_rfl) (by kernel_rfl) (by simp) fun c hc ht => ?_
      simp -implicitDefEqProofs (disch := omega) only [go_sem, ht, hbd', eq_self]
      (refine pCall_own1 (mk := fun p => .tup [p, .val (.bool true)]) (mk_b _) (by simp -implicitDefEqProofs (disch := omega) only [go_sem, ht, eq_self] <;> rfl) (by simp -implicitDefEqProofs (disch := omega) only [go_sem, ht, eq_self]) (closedL_U _) (flatL_U _) (ht') ?_; intro id1 cap1 rest1 nx1 hid1 hnx1 hcap1; simp only [put_nx, withH_nx, begP_nx, List.length_map] at hid1 hcap1; simp -implicitDefEqProofs (disch := omega) only [go_sem, ht, eq_self])
      (apply pCall_mem; exact (made_own (by simp -implicitDefEqProofs (disch := omega) only [go_sem, ht, eq_self] <;> rfl)); rintro _ _ nx2 ⟨rfl, rfl⟩ hnx2; (try simp only [put_nx, withH_nx, begP_nx] at hnx2); simp -implicitDefEqProofs (disch := omega) only [go_sem, ht, eq_self])
      exact end_own1 (mk := fun p => .agg [.val (.bool (b && decide (0 < (D (V xs - V ys)).length))), p]) (by simp -implicitDefEqProofs (disch := omega) only [go_sem, ht, eq_self] <;> rfl) (by simp -implicitDefEqProofs (disch := omega) only [go_sem, ht, eq_self] <;> rfl) (by simp <;> omega) (by simp <;> omega)
    · refine PW.of d (V ys - V xs) ?_ (by cases b <;> cases d <;> simp [WV, sg] at * <;> omega)
      have ht2 := sub_calls hy hx
      have l2 := (Ok_le hy.short (Nat.sub_le (V ys) (V xs))).len
      have ht3 := sub_tree hx hy
      rw [decide_eq_false hle] at ht3
      refine PCalls.enter (n := 47) (rs := [.cell 4 30]) (tb := [(2, [(0, []), (1, []), (2, []), (3, []), (4, []), (5, []), (6, [0, 1]), (7, []), (8, [])])]) Try.func16 rfl rfl rfl (by kernel_rfl) (by kernel_rfl) (by simp) fun c hc ht => ?_
      simp -implicitDefEqProofs (disch := omega) only [go_sem, ht, hbd', eq_self]
      (refine pCall_view (by simp -implicitDefEqProofs (disch := omega) only [go_sem, ht, eq_self] <;> rfl) (by simp -implicitDefEqProofs (disch := omega) only [go_sem, ht, eq_self]) (by first | (apply Or.inl; simp -implicitDefEqProofs (disch := omega) only [go_sem, ht, eq_self]; done) | (apply Or.inr; rintro r rfl; rfl)) (ht3) ?_; rintro _ nx - rfl hnx; (try simp only [put_nx, withH_nx, begP_nx] at hnx); simp -implicitDefEqProofs (disch := omega) only [go_sem, ht, eq_self])
      generalize nx = n0 at *
      (refine pCall_own1 (mk := fun p => .tup [p, .val (.bool (decide (V xs ≤ V ys)))]) (mk_b _) (by simp -implicitDefEqProofs (disch := omega) only [go_sem, ht, eq_self] <;> rfl) (by simp -implicitDefEqProofs (disch := omega) only [go_sem, ht, eq_self]) (closedL_U _) (flatL_U _) (ht2) ?_; intro id1 cap1 rest1 nx1 hid1 hnx1 hcap1; simp only [put_nx, withH_nx, begP_nx, List.length_map] at hid1 hcap1; simp -implicitDefEqProofs (disch := omega) only [go_sem, ht, eq_self])
      (apply pCall_mem; exact (made_own (by simp -implicitDefEqProofs (disch := omega) only [go_sem, ht, eq_self] <;> rfl)); rintro _ _ nx2 ⟨rfl, rfl⟩ hnx2; (try simp only [put_nx, withH_nx, begP_nx] at hnx2); simp -implicitDefEqProofs (disch := omega) only [go_sem, ht, eq_self])
      exact end_own1 (mk := fun p => .agg [.val (.bool (d && decide (0 < (D (V ys - V xs)).length))), p]) (by simp -implicitDefEqProofs (disch := omega) only [go_sem, ht, eq_self] <;> rfl) (by simp -implicitDefEqProofs (disch := omega) only [go_sem, ht, eq_self] <;> rfl) (by simp <;> omega) (by simp <;> omega)
theorem wsub_calls {b d : Bool} {xs ys : List Nat} (hx : Ok xs) (hy : Ok ys) (hp : Ok (D (V xs + V ys))) : PW 69 [WX b xs, WX d ys] (WV b xs - WV d ys) := by
  have e : WV b xs - WV d ys = WV b xs + WV (!d) ys := by cases d <;> simp [WV, sg] <;> omega
  rw [e]
  have ht' := wadd_calls (b := b) (d := !d) hx hy hp
  generalize WV b xs + WV (!d) ys = z at *
  have hz : Ok (D z.natAbs) ∨ True := .inr trivial
  refine PCalls.enter (n := 12) (rs := [.cell 4 30]) (tb := []) Try.func69 rfl rfl rfl (by kernel_rfl) (by kernel_rfl) (by simp) fun c hc ht => ?_
  simp -implicitDefEqProofs (disch := omega) only [go_sem, ht, eq_self]
  (refine pCall_own1 (mk := mkW z) (mk_W z) (by simp -implicitDefEqProofs (disch := omega) only [go_sem, ht, eq_self] <;> rfl) (by simp -implicitDefEqProofs (disch := omega) only [go_sem, ht, eq_self]) (closedL_U _) (flatL_U _) (ht') ?_; intro id1 cap1 rest1 nx1 hid1 hnx1 hcap1; simp only [put_nx, withH_nx, begP_nx, List.length_map] at hid1 hcap1; simp -implicitDefEqProofs (disch := omega) only [go_sem, ht, eq_self])
  exact end_own1 (mk := mkW z) (by simp -implicitDefEqProofs (disch := omega) only [go_sem, ht, eq_self] <;> rfl) (by simp -implicitDefEqProofs (disch := omega) only [go_sem, ht, eq_self] <;> rfl) (by simp <;> omega) (by simp <;> omega)
end Go.Proofs.Ytfjdfnlkobeehaa
