/- Part 31 of the way to the statement: the walk and what it needs. -/
import Derived.Test.YtfjdfnlkobeehaaKDeF21
import Derived.Test.YtfjdfnlkobeehaaKDeF26
import Derived.Test.YtfjdfnlkobeehaaKDeF28
import Derived.Test.YtfjdfnlkobeehaaKDeF30
section
set_option maxRecDepth 100000
set_option linter.unusedVariables false
set_option linter.unusedSimpArgs false
namespace Go.Proofs.Ytfjdfnlkobeehaa


def WX (b : Bool) (xs : List Nat) : PV := .agg [.val (.bool b), SU xs]
theorem WX_def (b : Bool) (xs : List Nat) : WX b xs = .agg [.val (.bool b), SU xs] := rfl

def sg (b : Bool) (n : Nat) : Int := if b then -(n : Int) else n
def WV (b : Bool) (xs : List Nat) : Int := sg b (V xs)

def WC (z : Int) : PV := WX (decide (z < 0)) (D z.natAbs)
theorem WC_def (z : Int) : WC z = .agg [.val (.bool (decide (z < 0))), SU (D z.natAbs)] := rfl
attribute [go_sem] WX_def WC_def
theorem sg_t (n : Nat) : sg true n = -(n : Int) := rfl
theorem sg_f (n : Nat) : sg false n = n := rfl
theorem sg_abs (b : Bool) (n : Nat) : (sg b n).natAbs = n := by cases b <;> simp [sg]
theorem sg_neg (b : Bool) (n : Nat) : decide (sg b n < 0) = (b && decide (0 < (D n).length)) := by
  have h : (D n).length = 0 ↔ n = 0 := D_len_zero
  cases b
  · simp [sg]
  · simp only [sg, if_true, Bool.true_and, decide_eq_decide]
    omega
theorem WV_C (z : Int) : WV (decide (z < 0)) (D z.natAbs) = z := by
  unfold WV sg
  rw [V_D]
  by_cases h : z < 0
  · simp only [h, decide_true, if_true]; omega
  · simp only [h, decide_false, if_false, Bool.false_eq_true]; omega
theorem WV_abs (b : Bool) (xs : List Nat) : (WV b xs).natAbs = V xs := sg_abs b _


def mkW (z : Int) : PV → PV := fun p => .agg [.val (.bool (decide (z < 0))), p]
theorem mk_W (z : Int) : Mk1 (mkW z) := mk_w _
theorem mkW_def (z : Int) (p : PV) : mkW z p = .agg [.val (.bool (decide (z < 0))), p] := rfl
attribute [go_sem] mkW_def
abbrev PW (f : FuncId) (args : List PV) (z : Int) : Prop := PO1 Try.prog f args (mkW z) ((D z.natAbs).map U)
theorem PWtree {f : FuncId} {args : List PV} {z : Int} (h : PW f args z) : PT Try.prog f args (isV (WC z)) := by
  have := PO1.tree (mk_W z) (flatL_U _) h
  simpa [WC, WX, SU_def, mkW] using this
theorem PW.of {f : FuncId} {args : List PV} {z : Int} (b : Bool) (n : Nat) (h : PO1 Try.prog f args (fun p => .agg [.val (.bool (b && decide (0 < (D n).length))), p]) ((D n).map U)) (hz : sg b n = z) : PW f args z := by
  subst hz
  unfold PW mkW
  rw [sg_abs, sg_neg]
  exact h

theorem made_own {H : Nat → Option (List PV)} {nx id n cap : Nat} {b : Bool} (h : H nx = none) :
    PCalls Try.prog 47 [.val (.bool b), .ref id 0 n cap 1] H nx (memR (.agg [.val (.bool (b && decide (0 < n))), .ref id 0 n cap 1]) H) := by
  refine PCalls.enter (n := 13) (rs := [.cell 4 30]) (tb := []) Try.func47 rfl rfl rfl (by kernel_rfl) (by kernel_rfl) (by simp) fun c hc ht => ?_
  cases b
  · simp -implicitDefEqProofs (disch := omega) only [go_sem, ht]
    refine end_mem (by simp -implicitDefEqProofs (disch := omega) only [go_sem, ht, Bool.false_and]) fun i => ?_
    simp -implicitDefEqProofs (disch := omega) only [go_sem, ht]
    exact upd_less h i
  · simp -implicitDefEqProofs (disch := omega) only [go_sem, ht]
    refine end_mem (by simp -implicitDefEqProofs (disch := omega) only [go_sem, ht, Bool.true_and, Int.natCast_pos]) fun i => ?_
    simp -implicitDefEqProofs (disch := omega) only [go_sem, ht]
    exact upd_less h i
theorem made_calls {b : Bool} {xs : List Nat} (hx : xs.length ≤ 1099511627776) : PT Try.prog 47 [.val (.bool b), SU xs] (isV (WX (b && decide (0 < xs.length)) xs)) := by
  refine PCalls.enter (n := 13) (rs := [.cell 4 30]) (tb := []) Try.func47 rfl rfl rfl (by kernel_rfl) (by kernel_rfl) (by simp) fun c hc ht => ?_
  cases b
  · simp -implicitDefEqProofs (disch := omega) only [go_sem, ht]
    (refine end_treeW 0 ?_; simp -implicitDefEqProofs (disch := omega) only [go_sem, ht, Bool.false_and, Bool.true_and, Int.natCast_pos])
  · simp -implicitDefEqProofs (disch := omega) only [go_sem, ht]
    (refine end_treeW 0 ?_; simp -implicitDefEqProofs (disch := omega) only [go_sem, ht, Bool.false_and, Bool.true_and, Int.natCast_pos])
end Go.Proofs.Ytfjdfnlkobeehaa

namespace Go.Proofs.Ytfjdfnlkobeehaa


def cZ (a b : Int) : Int := if a < b then -1 else if a = b then 0 else 1
theorem cZ_lt {a b : Int} (h : a < b) : cZ a b = -1 := if_pos h
theorem cZ_eq {a b : Int} (h : a = b) : cZ a b = 0 := by unfold cZ; rw [if_neg (by omega), if_pos h]
theorem cZ_gt {a b : Int} (h : b < a) : cZ a b = 1 := by unfold cZ; rw [if_neg (by omega), if_neg (by omega)]

theorem wtrim_calls {b : Bool} {xs : List Nat} (h : Ok xs) : PW 34 [WX b xs] (WV b xs) := by
  refine PW.of b (V xs) ?_ rfl
  have ht' := trim_calls h
  have := h.short.len
  refine PCalls.enter (n := 9) (rs := [.cell 2 30]) (tb := [(1, [(0, []), (1, []), (2, []), (3, []), (4, [0, 1]), (5, []), (6, [])])]) Try.func34 rfl rfl rfl (by kernel_rfl) (by kernel_rfl) (by simp) fun c hc ht => ?_
  simp -implicitDefEqProofs (disch := omega) only [go_sem, ht]
  (refine pCall_own1 (mk := fun p => p) (mk_id) (by simp -implicitDefEqProofs (disch := omega) only [go_sem, ht] <;> rfl) (by simp -implicitDefEqProofs (disch := omega) only [go_sem, ht]) (closedL_U _) (flatL_U _) (ht') ?_; intro id1 cap1 rest1 nx1 hid1 hnx1 hcap1; simp only [put_nx, withH_nx, begP_nx, List.length_map] at hid1 hcap1; simp -implicitDefEqProofs (disch := omega) only [go_sem, ht])
  (apply pCall_mem; exact (made_own (by simp -implicitDefEqProofs (disch := omega) only [go_sem, ht] <;> rfl)); rintro _ _ nx2 ⟨rfl, rfl⟩ hnx2; (try simp only [put_nx, withH_nx, begP_nx] at hnx2); simp -implicitDefEqProofs (disch := omega) only [go_sem, ht])
  exact end_own1 (mk := fun p => .agg [.val (.bool (b && decide (0 < (D (V xs)).length))), p]) (by simp -implicitDefEqProofs (disch := omega) only [go_sem, ht] <;> rfl) (by simp -implicitDefEqProofs (disch := omega) only [go_sem, ht] <;> rfl) (by simp <;> omega) (by simp <;> omega)
theorem wneg_calls {b : Bool} {xs : List Nat} (h : Ok xs) : PW 35 [WX b xs] (-WV b xs) := by
  refine PW.of (!b) (V xs) ?_ (by cases b <;> simp [WV, sg])
  have ht' := trim_calls h
  have := h.short.len
  refine PCalls.enter (n := 10) (rs := [.cell 2 30]) (tb := [(1, [(0, []), (1, []), (2, []), (3, []), (4, []), (5, [0, 1, 2]), (6, []), (7, [])])]) Try.func35 rfl rfl rfl (by kernel_rfl) (by kernel_rfl) (by simp) fun c hc ht => ?_
  simp -implicitDefEqProofs (disch := omega) only [go_sem, ht]
  (refine pCall_own1 (mk := fun p => p) (mk_id) (by simp -implicitDefEqProofs (disch := omega) only [go_sem, ht] <;> rfl) (by simp -implicitDefEqProofs (disch := omega) only [go_sem, ht]) (closedL_U _) (flatL_U _) (ht') ?_; intro id1 cap1 rest1 nx1 hid1 hnx1 hcap1; simp only [put_nx, withH_nx, begP_nx, List.length_map] at hid1 hcap1; simp -implicitDefEqProofs (disch := omega) only [go_sem, ht])
  (apply pCall_mem; exact (made_own (by simp -implicitDefEqProofs (disch := omega) only [go_sem, ht] <;> rfl)); rintro _ _ nx2 ⟨rfl, rfl⟩ hnx2; (try simp only [put_nx, withH_nx, begP_nx] at hnx2); simp -implicitDefEqProofs (disch := omega) only [go_sem, ht])
  exact end_own1 (mk := fun p => .agg [.val (.bool (!b && decide (0 < (D (V xs)).length))), p]) (by simp -implicitDefEqProofs (disch := omega) only [go_sem, ht] <;> rfl) (by simp -implicitDefEqProofs (disch := omega) only [go_sem, ht] <;> rfl) (by simp <;> omega) (by simp <;> omega)
theorem wmul_calls {b d : Bool} {xs ys : List Nat} (hx : Ok xs) (hy : Ok ys) (hp : Ok (D (V xs * V ys))) : PW 14 [WX b xs, WX d ys] (WV b xs * WV d ys) := by
  refine PW.of (b != d) (V xs * V ys) ?_ (by cases b <;> cases d <;> simp [WV, sg, Int.mul_neg, Int.neg_mul])
  have ht' := mul_calls hx hy
  have := hp.len
  refine PCalls.enter (n := 16) (rs := [.cell 4 30]) (tb := [(1, [(0, []), (1, []), (2, []), (3, []), (4, []), (5, []), (6, []), (7, []), (8, []), (9, [0, 1, 2, 3, 4]), (10, []), (11, [])]), (1000001, [(0, []), (1, []), (0, []), (4, []), (15, []), (0, []), (32, []), (0, []), (128, []), (480, []), (1023, []), (2047, [])])]) Try.func14 rfl rfl rfl (by kernel_rfl) (by kernel_rfl) (by simp) fun c hc ht => ?_
  simp -implicitDefEqProofs (disch := omega) only [go_sem, ht]
  (refine pCall_own1 (mk := fun p => p) (mk_id) (by simp -implicitDefEqProofs (disch := omega) only [go_sem, ht] <;> rfl) (by simp -implicitDefEqProofs (disch := omega) only [go_sem, ht]) (closedL_U _) (flatL_U _) (ht') ?_; intro id1 cap1 rest1 nx1 hid1 hnx1 hcap1; simp only [put_nx, withH_nx, begP_nx, List.length_map] at hid1 hcap1; simp -implicitDefEqProofs (disch := omega) only [go_sem, ht])
  (apply pCall_mem; exact (made_own (by simp -implicitDefEqProofs (disch := omega) only [go_sem, ht] <;> rfl)); rintro _ _ nx2 ⟨rfl, rfl⟩ hnx2; (try simp only [put_nx, withH_nx, begP_nx] at hnx2); simp -implicitDefEqProofs (disch := omega) only [go_sem, ht])
  exact end_own1 (mk := fun p => .agg [.val (.bool ((b != d) && decide (0 < (D (V xs * V ys)).length))), p]) (by simp -implicitDefEqProofs (disch := omega) only [go_sem, ht] <;> rfl) (by simp -implicitDefEqProofs (disch := omega) only [go_sem, ht] <;> rfl) (by simp <;> omega) (by simp <;> omega)
theorem wgcd_calls {b d : Bool} {xs ys : List Nat} (hx : Ok xs) (hy : Ok ys) (hp : Ok (D (Nat.gcd (V xs) (V ys)))) : PW 79 [WX b xs, WX d ys] (Nat.gcd (V xs) (V ys) : Nat) := by
  refine PW.of false (Nat.gcd (V xs) (V ys)) ?_ rfl
  have ht' := gcd_calls hx hy
  have := hp.len
  refine PCalls.enter (n := 11) (rs := [.cell 4 30]) (tb := []) Try.func79 rfl rfl rfl (by kernel_rfl) (by kernel_rfl) (by simp) fun c hc ht => ?_
  simp -implicitDefEqProofs (disch := omega) only [go_sem, ht]
  (refine pCall_own1 (mk := fun p => p) (mk_id) (by simp -implicitDefEqProofs (disch := omega) only [go_sem, ht] <;> rfl) (by simp -implicitDefEqProofs (disch := omega) only [go_sem, ht]) (closedL_U _) (flatL_U _) (ht') ?_; intro id1 cap1 rest1 nx1 hid1 hnx1 hcap1; simp only [put_nx, withH_nx, begP_nx, List.length_map] at hid1 hcap1; simp -implicitDefEqProofs (disch := omega) only [go_sem, ht])
  (apply pCall_mem; exact (made_own (by simp -implicitDefEqProofs (disch := omega) only [go_sem, ht] <;> rfl)); rintro _ _ nx2 ⟨rfl, rfl⟩ hnx2; (try simp only [put_nx, withH_nx, begP_nx] at hnx2); simp -implicitDefEqProofs (disch := omega) only [go_sem, ht])
  exact end_own1 (mk := fun p => .agg [.val (.bool (false && decide (0 < (D (Nat.gcd (V xs) (V ys))).length))), p]) (by simp -implicitDefEqProofs (disch := omega) only [go_sem, ht] <;> rfl) (by simp -implicitDefEqProofs (disch := omega) only [go_sem, ht] <;> rfl) (by simp <;> omega) (by simp <;> omega)
theorem wof_calls {v : Int} (h0 : -9223372036854775808 ≤ v) (h1 : v ≤ 9223372036854775807) : PW 15 [.val (.int .i64 v)] v := by
  by_cases hn : v < 0
  · refine PW.of true v.natAbs ?_ (by simp only [sg, if_true]; omega)
    have ht' := small_calls (n := v.natAbs) (by omega)
    have e : (v.natAbs : Int) = 0 - (v + 1) + 1 := by omega
    rw [e] at ht'
    have hl : Ok (D v.natAbs) := .D (k := 2) (by omega) (by omega)
    have := hl.len
    refine PCalls.enter (n := 16) (rs := [.cell 2 30]) (tb := []) Try.func15 rfl rfl rfl (by kernel_rfl) (by kernel_rfl) (by simp) fun c hc ht => ?_
    simp -implicitDefEqProofs (disch := omega) only [go_sem, ht]
    (refine pCall_own1 (mk := fun p => p) (mk_id) (by simp -implicitDefEqProofs (disch := omega) only [go_sem, ht] <;> rfl) (by simp -implicitDefEqProofs (disch := omega) only [go_sem, ht]) (closedL_U _) (flatL_U _) (ht') ?_; intro id1 cap1 rest1 nx1 hid1 hnx1 hcap1; simp only [put_nx, withH_nx, begP_nx, List.length_map] at hid1 hcap1; simp -implicitDefEqProofs (disch := omega) only [go_sem, ht])
    (apply pCall_mem; exact (made_own (by simp -implicitDefEqProofs (disch := omega) only [go_sem, ht] <;> rfl)); rintro _ _ nx2 ⟨rfl, rfl⟩ hnx2; (try simp only [put_nx, withH_nx, begP_nx] at hnx2); simp -implicitDefEqProofs (disch := omega) only [go_sem, ht])
    exact end_own1 (mk := fun p => .agg [.val (.bool (true && decide (0 < (D v.natAbs).length))), p]) (by simp -implicitDefEqProofs (disch := omega) only [go_sem, ht] <;> rfl) (by simp -implicitDefEqProofs (disch := omega) only [go_sem, ht] <;> rfl) (by simp <;> omega) (by simp <;> omega)
  · refine PW.of false v.natAbs ?_ (by simp [sg]; omega)
    have ht' := small_calls (n := v.natAbs) (by omega)
    have e : (v.natAbs : Int) = v := by omega
    rw [e] at ht'
    have hl : Ok (D v.natAbs) := .D (k := 2) (by omega) (by omega)
    have := hl.len
    refine PCalls.enter (n := 16) (rs := [.cell 2 30]) (tb := []) Try.func15 rfl rfl rfl (by kernel_rfl) (by kernel_rfl) (by simp) fun c hc ht => ?_
    simp -implicitDefEqProofs (disch := omega) only [go_sem, ht]
    (refine pCall_own1 (mk := fun p => p) (mk_id) (by simp -implicitDefEqProofs (disch := omega) only [go_sem, ht] <;> rfl) (by simp -implicitDefEqProofs (disch := omega) only [go_sem, ht]) (closedL_U _) (flatL_U _) (ht') ?_; intro id1 cap1 rest1 nx1 hid1 hnx1 hcap1; simp only [put_nx, withH_nx, begP_nx, List.length_map] at hid1 hcap1; simp -implicitDefEqProofs (disch := omega) only [go_sem, ht])
    (apply pCall_mem; exact (made_own (by simp -implicitDefEqProofs (disch := omega) only [go_sem, ht] <;> rfl)); rintro _ _ nx2 ⟨rfl, rfl⟩ hnx2; (try simp only [put_nx, withH_nx, begP_nx] at hnx2); simp -implicitDefEqProofs (disch := omega) only [go_sem, ht])
    exact end_own1 (mk := fun p => .agg [.val (.bool (false && decide (0 < (D v.natAbs).length))), p]) (by simp -implicitDefEqProofs (disch := omega) only [go_sem, ht] <;> rfl) (by simp -implicitDefEqProofs (disch := omega) only [go_sem, ht] <;> rfl) (by simp <;> omega) (by simp <;> omega)
theorem wsign_calls {b : Bool} {xs : List Nat} (h : Ok xs) : PT Try.prog 33 [WX b xs] (isV (.val (.int .i64 (cZ (WV b xs) 0)))) := by
  have hb := bits_calls h
  by_cases h0 : V xs = 0
  · rw [h0, bl_zero] at hb
    rw [cZ_eq (by rw [WV, h0]; cases b <;> rfl)]
    refine PCalls.enter (n := 11) (rs := [.tmp 2]) (tb := []) Try.func33 rfl rfl rfl (by kernel_rfl) (by kernel_rfl) (by simp) fun c hc ht => ?_
    simp -implicitDefEqProofs (disch := omega) only [go_sem, ht]
    (refine pCall_vw (by refine ⟨⟨?_, ?_⟩, ?_, ?_⟩; rotate_left 2; (first | (right; rintro r rfl; rfl) | left); all_goals ((try simp -implicitDefEqProofs (disch := omega) only [go_sem, ht]) <;> rfl)) (hb) ?_; rintro _ nx - rfl hnx; simp -implicitDefEqProofs (disch := omega) only [go_sem, ht])
    (refine end_treeW 0 ?_; simp -implicitDefEqProofs (disch := omega) only [go_sem, ht])
  · have hp := bl_pos' h0
    generalize bl (V xs) = k at *
    cases b
    · rw [cZ_gt (by simp [WV, sg]; omega)]
      refine PCalls.enter (n := 11) (rs := [.tmp 2]) (tb := []) Try.func33 rfl rfl rfl (by kernel_rfl) (by kernel_rfl) (by simp) fun c hc ht => ?_
      simp -implicitDefEqProofs (disch := omega) only [go_sem, ht]
      (refine pCall_vw (by refine ⟨⟨?_, ?_⟩, ?_, ?_⟩; rotate_left 2; (first | (right; rintro r rfl; rfl) | left); all_goals ((try simp -implicitDefEqProofs (disch := omega) only [go_sem, ht]) <;> rfl)) (hb) ?_; rintro _ nx - rfl hnx; simp -implicitDefEqProofs (disch := omega) only [go_sem, ht])
      (refine end_treeW 0 ?_; simp -implicitDefEqProofs (disch := omega) only [go_sem, ht])
    · rw [cZ_lt (by simp [WV, sg]; omega)]
      refine PCalls.enter (n := 11) (rs := [.tmp 2]) (tb := []) Try.func33 rfl rfl rfl (by kernel_rfl) (by kernel_rfl) (by simp) fun c hc ht => ?_
      simp -implicitDefEqProofs (disch := omega) only [go_sem, ht]
      (refine pCall_vw (by refine ⟨⟨?_, ?_⟩, ?_, ?_⟩; rotate_left 2; (first | (right; rintro r rfl; rfl) | left); all_goals ((try simp -implicitDefEqProofs (disch := omega) only [go_sem, ht]) <;> rfl)) (hb) ?_; rintro _ nx - rfl hnx; simp -implicitDefEqProofs (disch := omega) only [go_sem, ht])
      (refine end_treeW 0 ?_; simp -implicitDefEqProofs (disch := omega) only [go_sem, ht])
theorem wlimbs_calls {b : Bool} {xs : List Nat} (h : Ok xs) : PT Try.prog 36 [WX b xs] (isV (.val (.int .i64 ((bl (V xs) + 31) / 32 : Nat)))) := by
  have hb := bits_calls h
  have hk : bl (V xs) ≤ 35184372088832 := by
    have h1 := h.len
    have h2 : bl (V xs) ≤ 32 * xs.length := bl_le.2 (by rw [← pow32]; exact V_lt h.lm)
    omega
  generalize bl (V xs) = k at *
  refine PCalls.enter (n := 8) (rs := [.tmp 2]) (tb := []) Try.func36 rfl rfl rfl (by kernel_rfl) (by kernel_rfl) (by simp) fun c hc ht => ?_
  simp -implicitDefEqProofs (disch := omega) only [go_sem, ht]
  (refine pCall_vw (by refine ⟨⟨?_, ?_⟩, ?_, ?_⟩; rotate_left 2; (first | (right; rintro r rfl; rfl) | left); all_goals ((try simp -implicitDefEqProofs (disch := omega) only [go_sem, ht]) <;> rfl)) (hb) ?_; rintro _ nx - rfl hnx; simp -implicitDefEqProofs (disch := omega) only [go_sem, ht])
  (refine end_treeW 0 ?_; simp -implicitDefEqProofs (disch := omega) only [go_sem, ht])
end Go.Proofs.Ytfjdfnlkobeehaa

namespace Go.Proofs.Ytfjdfnlkobeehaa

theorem wadd_calls {b d : Bool} {xs ys : List Nat} (hx : Ok xs) (hy : Ok ys) (hp : Ok (D (V xs + V ys))) : PW 16 [WX b xs, WX d ys] (WV b xs + WV d ys) := by
  by_cases hbd : b = d
  · subst hbd
    refine PW.of b (V xs + V ys) ?_ (by cases b <;> simp [WV, sg]; omega)
    have ht' := add_calls hx hy
    have := hp.len
    refine PCalls.enter (n := 47) (rs := [.cell 4 30]) (tb := [(2, [(0, []), (1, []), (2, []), (3, []), (4, []), (5, []), (6, [0, 1]), (7, []), (8, [])])]) Try.func16 rfl rfl rfl (by kernel_rfl) (by kernel_rfl) (by simp) fun c hc ht => ?_
    simp -implicitDefEqProofs (disch := omega) only [go_sem, ht]
    (refine pCall_own1 (mk := fun p => p) (mk_id) (by simp -implicitDefEqProofs (disch := omega) only [go_sem, ht] <;> rfl) (by simp -implicitDefEqProofs (disch := omega) only [go_sem, ht]) (closedL_U _) (flatL_U _) (ht') ?_; intro id1 cap1 rest1 nx1 hid1 hnx1 hcap1; simp only [put_nx, withH_nx, begP_nx, List.length_map] at hid1 hcap1; simp -implicitDefEqProofs (disch := omega) only [go_sem, ht])
    (apply pCall_mem; exact (made_own (by simp -implicitDefEqProofs (disch := omega) only [go_sem, ht] <;> rfl)); rintro _ _ nx2 ⟨rfl, rfl⟩ hnx2; (try simp only [put_nx, withH_nx, begP_nx] at hnx2); simp -implicitDefEqProofs (disch := omega) only [go_sem, ht])
    exact end_own1 (mk := fun p => .agg [.val (.bool (b && decide (0 < (D (V xs + V ys)).length))), p]) (by simp -implicitDefEqProofs (disch := omega) only [go_sem, ht] <;> rfl) (by simp -implicitDefEqProofs (disch := omega) only [go_sem, ht] <;> rfl) (by simp <;> omega) (by simp <;> omega)
  · have hbd' : (b == d) = false := by simpa using hbd
    have ht' := sub_calls hx hy
    have l1 := (Ok_le hx.short (Nat.sub_le (V xs) (V ys))).len
    by_cases hle : V ys ≤ V xs
    · refine PW.of b (V xs - V ys) ?_ (by cases b <;> cases d <;> simp [WV, sg] at * <;> omega)
      rw [decide_eq_true hle] at ht'
      refine PCalls.enter (n := 47) (rs := [.cell 4 30]) (tb := [(2, [(0, []), (1, []), (2, []), (3, []), (4, []), (5, []), (6, [0, 1]), (7, []), (8, [])])]) Try.func16 rfl rfl rfl (by kernel_rfl) (by kernel_rfl) (by simp) fun c hc ht => ?_
      simp -implicitDefEqProofs (disch := omega) only [go_sem, ht, hbd']
      (refine pCall_own1 (mk := fun p => .tup [p, .val (.bool true)]) (mk_b _) (by simp -implicitDefEqProofs (disch := omega) only [go_sem, ht] <;> rfl) (by simp -implicitDefEqProofs (disch := omega) only [go_sem, ht]) (closedL_U _) (flatL_U _) (ht') ?_; intro id1 cap1 rest1 nx1 hid1 hnx1 hcap1; simp only [put_nx, withH_nx, begP_nx, List.length_map] at hid1 hcap1; simp -implicitDefEqProofs (disch := omega) only [go_sem, ht])
      (apply pCall_mem; exact (made_own (by simp -implicitDefEqProofs (disch := omega) only [go_sem, ht] <;> rfl)); rintro _ _ nx2 ⟨rfl, rfl⟩ hnx2; (try simp only [put_nx, withH_nx, begP_nx] at hnx2); simp -implicitDefEqProofs (disch := omega) only [go_sem, ht])
      exact end_own1 (mk := fun p => .agg [.val (.bool (b && decide (0 < (D (V xs - V ys)).length))), p]) (by simp -implicitDefEqProofs (disch := omega) only [go_sem, ht] <;> rfl) (by simp -implicitDefEqProofs (disch := omega) only [go_sem, ht] <;> rfl) (by simp <;> omega) (by simp <;> omega)
    · refine PW.of d (V ys - V xs) ?_ (by cases b <;> cases d <;> simp [WV, sg] at * <;> omega)
      have ht2 := sub_calls hy hx
      have l2 := (Ok_le hy.short (Nat.sub_le (V ys) (V xs))).len
      have ht3 := sub_tree hx hy
      rw [decide_eq_false hle] at ht3
      refine PCalls.enter (n := 47) (rs := [.cell 4 30]) (tb := [(2, [(0, []), (1, []), (2, []), (3, []), (4, []), (5, []), (6, [0, 1]), (7, []), (8, [])])]) Try.func16 rfl rfl rfl (by kernel_rfl) (by kernel_rfl) (by simp) fun c hc ht => ?_
      simp -implicitDefEqProofs (disch := omega) only [go_sem, ht, hbd']
      (refine pCall_vw (by refine ⟨⟨?_, ?_⟩, ?_, ?_⟩; rotate_left 2; (first | (right; rintro r rfl; rfl) | left); all_goals ((try simp -implicitDefEqProofs (disch := omega) only [go_sem, ht]) <;> rfl)) (ht3) ?_; rintro _ nx - rfl hnx; simp -implicitDefEqProofs (disch := omega) only [go_sem, ht])
      generalize nx = n0 at *
      (refine pCall_own1 (mk := fun p => .tup [p, .val (.bool (decide (V xs ≤ V ys)))]) (mk_b _) (by simp -implicitDefEqProofs (disch := omega) only [go_sem, ht] <;> rfl) (by simp -implicitDefEqProofs (disch := omega) only [go_sem, ht]) (closedL_U _) (flatL_U _) (ht2) ?_; intro id1 cap1 rest1 nx1 hid1 hnx1 hcap1; simp only [put_nx, withH_nx, begP_nx, List.length_map] at hid1 hcap1; simp -implicitDefEqProofs (disch := omega) only [go_sem, ht])
      (apply pCall_mem; exact (made_own (by simp -implicitDefEqProofs (disch := omega) only [go_sem, ht] <;> rfl)); rintro _ _ nx2 ⟨rfl, rfl⟩ hnx2; (try simp only [put_nx, withH_nx, begP_nx] at hnx2); simp -implicitDefEqProofs (disch := omega) only [go_sem, ht])
      exact end_own1 (mk := fun p => .agg [.val (.bool (d && decide (0 < (D (V ys - V xs)).length))), p]) (by simp -implicitDefEqProofs (disch := omega) only [go_sem, ht] <;> rfl) (by simp -implicitDefEqProofs (disch := omega) only [go_sem, ht] <;> rfl) (by simp <;> omega) (by simp <;> omega)
theorem wsub_calls {b d : Bool} {xs ys : List Nat} (hx : Ok xs) (hy : Ok ys) (hp : Ok (D (V xs + V ys))) : PW 69 [WX b xs, WX d ys] (WV b xs - WV d ys) := by
  have e : WV b xs - WV d ys = WV b xs + WV (!d) ys := by cases d <;> simp [WV, sg] <;> omega
  rw [e]
  have ht' := wadd_calls (b := b) (d := !d) hx hy hp
  generalize WV b xs + WV (!d) ys = z at *
  have hz : Ok (D z.natAbs) ∨ True := .inr trivial
  refine PCalls.enter (n := 12) (rs := [.cell 4 30]) (tb := []) Try.func69 rfl rfl rfl (by kernel_rfl) (by kernel_rfl) (by simp) fun c hc ht => ?_
  simp -implicitDefEqProofs (disch := omega) only [go_sem, ht]
  (refine pCall_own1 (mk := mkW z) (mk_W z) (by simp -implicitDefEqProofs (disch := omega) only [go_sem, ht] <;> rfl) (by simp -implicitDefEqProofs (disch := omega) only [go_sem, ht]) (closedL_U _) (flatL_U _) (ht') ?_; intro id1 cap1 rest1 nx1 hid1 hnx1 hcap1; simp only [put_nx, withH_nx, begP_nx, List.length_map] at hid1 hcap1; simp -implicitDefEqProofs (disch := omega) only [go_sem, ht])
  exact end_own1 (mk := mkW z) (by simp -implicitDefEqProofs (disch := omega) only [go_sem, ht] <;> rfl) (by simp -implicitDefEqProofs (disch := omega) only [go_sem, ht] <;> rfl) (by simp <;> omega) (by simp <;> omega)
end Go.Proofs.Ytfjdfnlkobeehaa
end

section
set_option maxRecDepth 100000
set_option linter.unusedVariables false
set_option linter.unusedSimpArgs false
namespace Go.Proofs.Ytfjdfnlkobeehaa

theorem len_whole {b : Bool} {xs : List Nat} (h : xs.length ≤ 35184372087808) : PT Try.prog 61 [WX b xs] (isV (.val (.int .i64 (1 + xs.length : Nat)))) := by
  refine PCalls.enter (n := 7) (rs := [.tmp 2]) (tb := []) Try.func61 rfl rfl rfl (by kernel_rfl) (by kernel_rfl) (by simp) fun c hc ht => ?_
  simp -implicitDefEqProofs (disch := omega) only [go_sem, ht]
  (refine end_treeW 0 ?_; simp -implicitDefEqProofs (disch := omega) only [go_sem, ht])
theorem WX_eq {a b : Int} : (decide (a < 0) = decide (b < 0) ∧ D a.natAbs = D b.natAbs) ↔ a = b := by
  rw [D_eq, decide_eq_decide]
  omega
theorem same_whole {a b : Int} (ha : Ok (D a.natAbs)) (hb : Ok (D b.natAbs)) : PT Try.prog 32 [WC a, WC b] (isV (.val (.bool (decide (a = b))))) := by
  have hs := same_calls ha hb
  by_cases hab : a = b
  · subst hab
    rw [decide_eq_true rfl] at hs ⊢
    refine PCalls.enter (n := 17) (rs := [.tmp 4]) (tb := []) Try.func32 rfl rfl rfl (by kernel_rfl) (by kernel_rfl) (by simp) fun c hc ht => ?_
    simp -implicitDefEqProofs (disch := omega) only [go_sem, ht]
    (refine pCall_vw (by refine ⟨⟨?_, ?_⟩, ?_, ?_⟩; rotate_left 2; (first | (right; rintro r rfl; rfl) | left); all_goals ((try simp -implicitDefEqProofs (disch := omega) only [go_sem, ht]) <;> rfl)) (hs) ?_; rintro _ nx - rfl hnx; simp -implicitDefEqProofs (disch := omega) only [go_sem, ht])
    (refine end_treeW 0 ?_; simp -implicitDefEqProofs (disch := omega) only [go_sem, ht])
  · rw [decide_eq_false hab]
    by_cases hsg : decide (a < 0) = decide (b < 0)
    · have hn : D a.natAbs ≠ D b.natAbs := fun h => hab (WX_eq.1 ⟨hsg, h⟩)
      rw [decide_eq_false hn] at hs
      rw [WC_def, WC_def, hsg]
      refine PCalls.enter (n := 17) (rs := [.tmp 4]) (tb := []) Try.func32 rfl rfl rfl (by kernel_rfl) (by kernel_rfl) (by simp) fun c hc ht => ?_
      simp -implicitDefEqProofs (disch := omega) only [go_sem, ht]
      (refine pCall_vw (by refine ⟨⟨?_, ?_⟩, ?_, ?_⟩; rotate_left 2; (first | (right; rintro r rfl; rfl) | left); all_goals ((try simp -implicitDefEqProofs (disch := omega) only [go_sem, ht]) <;> rfl)) (hs) ?_; rintro _ nx - rfl hnx; simp -implicitDefEqProofs (disch := omega) only [go_sem, ht])
      (refine end_treeW 0 ?_; simp -implicitDefEqProofs (disch := omega) only [go_sem, ht])
    · have hne : (decide (a < 0) == decide (b < 0)) = false := by simpa using hsg
      rw [WC_def, WC_def]
      generalize decide (a < 0) = sa at *
      generalize decide (b < 0) = sb at *
      refine PCalls.enter (n := 17) (rs := [.tmp 4]) (tb := []) Try.func32 rfl rfl rfl (by kernel_rfl) (by kernel_rfl) (by simp) fun c hc ht => ?_
      simp -implicitDefEqProofs (disch := omega) only [go_sem, ht, hne]
      (refine end_treeW 0 ?_; simp -implicitDefEqProofs (disch := omega) only [go_sem, ht])
theorem small_whole {v : Int} (h0 : -9223372036854775808 ≤ v) (h1 : v ≤ 9223372036854775807) : PT Try.prog 87 [.val (.int .i64 v)] (isV (WC v)) := by
  refine PCalls.enter (n := 24) (rs := [.cell 2 30]) (tb := []) Try.func87 rfl rfl rfl (by kernel_rfl) (by kernel_rfl) (by simp) fun c hc ht => ?_
  have hn : v.natAbs < 18446744073709551616 := by omega
  have hl : Ok (D v.natAbs) := .D (k := 2) (by omega) (by omega)
  simp -implicitDefEqProofs (disch := omega) only [go_sem, ht]
  refine LW.both (fun s => s.sl 0 = .val (.int .i64 v) ∧ s.sl 3 = .val (.int .u64 v.natAbs) ∧ s.sl 4 = .val (.slice none 0 0) ∧ s.sl 2 = .ptr 0 0 ∧ s.H 0 = some [.val (.bool false), .val (.slice none 0 0)] ∧ 0 < s.nx) (fun h => ?_) (fun h => ?_) ?_
  · simp -implicitDefEqProofs (disch := omega) only [go_sem, ht]
    congr 2; omega
  · simp -implicitDefEqProofs (disch := omega) only [go_sem, ht]
    congr 2; omega
  · rintro s ⟨h0, h3, h4, h2, hH, hnx⟩
    refine LW.loopW hc ht (by kernel_rfl) (fun t => t.sl 0 = .val (.int .i64 v) ∧ t.sl 2 = .ptr 0 0 ∧ t.H 0 = some [.val (.bool false), .val (.slice none 0 0)] ∧ 0 < t.nx ∧ ∃ (u : Nat) (zs : List Nat), u ≤ v.natAbs ∧ t.sl 3 = .val (.int .u64 u) ∧ D v.natAbs = zs ++ D u ∧
      ((zs = [] ∧ t.sl 4 = .val (.slice none 0 0)) ∨ ∃ (id cap : Nat) (rest : List Value), t.sl 4 = .ref id 0 zs.length cap 1 ∧ t.H id = some (zs.map U ++ rest.map .val) ∧ zs.length + rest.length = cap ∧ 0 < id ∧ id < t.nx))
      (fun t => match t.sl 3 with | .val (.int _ u) => u.toNat | _ => 0) ?_ ?_
    · exact ⟨h0, h2, hH, hnx, v.natAbs, [], Nat.le_refl _, h3, rfl, .inl ⟨rfl, h4⟩⟩
    · clear h0 h3 h4 h2 hH hnx
      rintro t ⟨h0, h2, hH, hnx, u, zs, hu, h3, hD, h4⟩
      by_cases hu0 : u = 0
      · subst hu0
        rw [D_zero, List.append_nil] at hD
        subst hD
        rcases h4 with ⟨hz, h4⟩ | ⟨id, cap, rest, h4, hHi, hcap, hid, hid'⟩
        · simp -implicitDefEqProofs (disch := omega) only [go_sem, ht, h0, h2, h3, h4, hH]
          (refine end_treeM 2 ?_; simp -implicitDefEqProofs (disch := omega) only [go_sem, ht, h2, hz])
        · have hidn : id ≠ 0 := by omega
          simp -implicitDefEqProofs (disch := omega) only [go_sem, ht, h0, h2, h3, h4, hH]
          (refine end_treeM 2 ?_; simp -implicitDefEqProofs (disch := omega) only [go_sem, ht, h2, hHi]; omega)
      · rw [D_pos hu0] at hD
        have hlen := hl.len
        rw [hD] at hlen
        simp only [List.length_append, List.length_cons] at hlen
        rcases h4 with ⟨hz, h4⟩ | ⟨id, cap, rest, h4, hHi, hcap, hid, hid'⟩
        · simp -implicitDefEqProofs (disch := omega) only [go_sem, ht, h0, h2, h3, h4, hH]
          subst hz
          refine append_nil (e := 93) (b := 4) (m := 1) (z := .int .u32 0) (ys := [U (u % 4294967296)]) T28_elem rfl T93_size T93_bytes T93_zero (by simp -implicitDefEqProofs (disch := omega) only [go_sem, ht, srcP_ref]) (by simp -implicitDefEqProofs (disch := omega) only [go_sem, ht]) (by omega) (fun h0 => by omega) fun cap' rest' h1 _ => ?_
          simp -implicitDefEqProofs (disch := omega) only [go_sem, ht, h0, h2, h3, h4, hH]
          exact ⟨⟨u / 4294967296, [u % 4294967296], by omega, rfl, hD, .inr ⟨t.nx + 1, cap', rest', rfl, upd_self _ _ _, by simpa using h1, by omega, by omega⟩⟩, by omega⟩
        · simp -implicitDefEqProofs (disch := omega) only [go_sem, ht, h0, h2, h3, h4, hH]
          (refine append_ownX (by refine ⟨?_, ?_, ?_, ?_, ?_, ?_, ?_, ?_⟩ <;> (simp -implicitDefEqProofs (disch := omega) only [srcP_ref, srcP_sl, srcP_nil, Option.isSome_some, hHi, go_sem, ht] <;> rfl)) (by simp <;> omega) (by first | assumption | (simp <;> omega)) (by first | rfl | simp) (by first | omega | (simp <;> omega)) ?_; intro id1 cap1 rest1 H1 nx1 hH1 hcap1 hid1 hnx1 hfr1 hfs1; simp only [put_nx, withH_nx, put_H, withH_H] at hid1 hnx1 hfr1 hfs1; (try simp only [app_U, ← List.map_append] at hH1))
          have hH0 : H1 0 = some [.val (.bool false), .val (.slice none 0 0)] := by rw [hfr1 _ (by omega) (by omega)]; simp -implicitDefEqProofs (disch := omega) only [go_sem, ht, hH]
          simp -implicitDefEqProofs (disch := omega) only [go_sem, ht, h0, h2, h3, h4, hH0]
          exact ⟨⟨by omega, u / 4294967296, zs ++ [u % 4294967296], by omega, rfl, by rw [hD, List.append_assoc]; rfl, .inr ⟨id1, cap1, rest1, by simp, hH1, by simpa using hcap1, by omega, by omega⟩⟩, by omega⟩
end Go.Proofs.Ytfjdfnlkobeehaa

namespace Go.Proofs.Ytfjdfnlkobeehaa

theorem ediv_of {x y q r : Int} (h : r + y * q = x) (h0 : 0 ≤ r) (h1 : r < y.natAbs) : x / y = q ∧ x % y = r := by
  rcases Int.lt_trichotomy y 0 with hy | hy | hy
  · have h2 := (Int.ediv_emod_unique (a := x) (b := -y) (r := r) (q := -q) (by omega)).2 ⟨by rw [Int.neg_mul_neg]; exact h, h0, by omega⟩
    rw [Int.ediv_neg, Int.emod_neg] at h2
    exact ⟨by omega, h2.2⟩
  · subst hy; omega
  · exact (Int.ediv_emod_unique hy).2 ⟨h, h0, by omega⟩

theorem sg_div {b d : Bool} {m n : Nat} (hn : n ≠ 0) :
    (sg b (m % n) < 0 → (sg d n < 0 → sg b m / sg d n = sg (b != d) (m / n) + 1 ∧ sg b m % sg d n = sg b (m % n) - sg d n) ∧ (¬ sg d n < 0 → sg b m / sg d n = sg (b != d) (m / n) - 1 ∧ sg b m % sg d n = sg b (m % n) + sg d n)) ∧
    (¬ sg b (m % n) < 0 → sg b m / sg d n = sg (b != d) (m / n) ∧ sg b m % sg d n = sg b (m % n)) := by
  have e : ((m % n : Nat) : Int) + n * (m / n : Nat) = m := by exact_mod_cast Nat.mod_add_div m n
  have hr : m % n < n := Nat.mod_lt _ (Nat.pos_of_ne_zero hn)
  generalize m / n = q at *
  generalize m % n = r at *
  refine ⟨fun h => ⟨fun h' => ediv_of ?_ ?_ ?_, fun h' => ediv_of ?_ ?_ ?_⟩, fun h => ediv_of ?_ ?_ ?_⟩ <;> cases b <;> cases d <;> simp [sg] at * <;> (try omega) <;> (try simp only [Int.mul_add, Int.mul_sub, Int.mul_neg, Int.neg_mul, Int.neg_neg, Int.mul_one]) <;> omega
theorem sg_Ok {b : Bool} {n : Nat} (h : Ok (D n)) : Ok (D (sg b n).natAbs) := by rw [sg_abs]; exact h
theorem Ok1 : Ok (D 1) := .D (k := 1) (by omega) (by omega)
theorem Ok_add {a b k : Nat} (ha : Ok (D a)) (h : (D a).length ≤ k) (hb : (D b).length ≤ k) (hk : k < 1099511627776) : Ok (D (a + b)) := by
  refine .D (k := k + 1) ?_ (by omega)
  exact lt_add (D_len_le.1 h) (D_len_le.1 hb)
theorem wadd_v {b d : Bool} {xs ys : List Nat} {x y : Int} (hx : Ok xs) (hy : Ok ys) (hp : Ok (D (V xs + V ys))) (ex : WV b xs = x) (ey : WV d ys = y) : PT Try.prog 16 [WX b xs, WX d ys] (isV (WC (x + y))) := by
  subst ex ey; exact PWtree (wadd_calls hx hy hp)
theorem wsub_v {b d : Bool} {xs ys : List Nat} {x y : Int} (hx : Ok xs) (hy : Ok ys) (hp : Ok (D (V xs + V ys))) (ex : WV b xs = x) (ey : WV d ys = y) : PT Try.prog 69 [WX b xs, WX d ys] (isV (WC (x - y))) := by
  subst ex ey; exact PWtree (wsub_calls hx hy hp)
theorem made_v {b : Bool} {n : Nat} (hn : Ok (D n)) : PT Try.prog 47 [.val (.bool b), SU (D n)] (isV (WC (sg b n))) := by
  have := made_calls (b := b) hn.len
  rw [← sg_neg] at this
  rwa [WC, sg_abs]
theorem wdivmod_z {b d : Bool} {xs ys : List Nat} (hx : Ok xs) (hy : Ok ys) (h0 : V ys = 0) : PT Try.prog 70 [WX b xs, WX d ys] (isV (.tup [WC 0, WC 0, .val (.bool false)])) := by
  have hd := divmod_z hx hy h0
  have e0 : WC 0 = .agg [.val (.bool false), .sl 0 []] := by rw [WC_def, SU_def]; simp [D_zero]
  rw [e0]
  refine PCalls.enter (n := 55) (rs := [.cell 4 30, .cell 5 30, .tmp 6]) (tb := [(4, [(0, []), (1, []), (2, []), (3, []), (4, []), (5, []), (7, []), (8, []), (9, []), (6, [7, 8, 9]), (10, []), (11, []), (12, [])]), (1000004, [(0, []), (1, []), (0, []), (4, []), (15, []), (0, []), (63, []), (0, []), (128, []), (0, []), (1023, []), (2047, []), (4095, [])]), (6, [(0, []), (1, []), (2, [1]), (3, []), (4, [])]), (9, [(0, []), (1, []), (3, []), (4, []), (2, [3, 4]), (5, []), (6, []), (7, []), (8, [])]), (10, [(0, []), (1, []), (3, []), (4, []), (2, [3, 4]), (5, []), (6, []), (7, []), (8, [])])]) Try.func70 rfl rfl rfl (by kernel_rfl) (by kernel_rfl) (by simp) fun c hc ht => ?_
  simp -implicitDefEqProofs (disch := omega) only [go_sem, ht]
  (refine pCall_vw (by refine ⟨⟨?_, ?_⟩, ?_, ?_⟩; rotate_left 2; (first | (right; rintro r rfl; rfl) | left); all_goals ((try simp -implicitDefEqProofs (disch := omega) only [go_sem, ht]) <;> rfl)) (hd) ?_; rintro _ nx - rfl hnx; simp -implicitDefEqProofs (disch := omega) only [go_sem, ht])
  (refine end_treeM 2 ?_; simp -implicitDefEqProofs (disch := omega) only [go_sem, ht])
theorem wdivmod_calls {b d : Bool} {xs ys : List Nat} (hx : Ok xs) (hy : Ok ys) (h0 : V ys ≠ 0) (hxl : xs.length < 1099511627776) (hyl : ys.length < 1099511627776) :
    PT Try.prog 70 [WX b xs, WX d ys] (isV (.tup [WC (WV b xs / WV d ys), WC (WV b xs % WV d ys), .val (.bool true)])) := by
  have hd := divmod_v hx hy rfl rfl h0
  have hsg := sg_div (b := b) (d := d) (m := V xs) h0
  have hs := wsign_calls (b := d) hy
  have hq : Ok (D (V xs / V ys)) := Ok_le hx.short (Nat.div_le_self _ _)
  have hr : Ok (D (V xs % V ys)) := Ok_le hx.short (Nat.mod_le _ _)
  have ma := made_v (b := b != d) hq
  have mb := made_v (b := b) hr
  unfold WV at *
  by_cases hneg : sg b (V xs % V ys) < 0
  · obtain ⟨g1, g2⟩ := hsg.1 hneg
    have hof := PWtree (wof_calls (v := 1) (by omega) (by omega))
    have lq := Nat.le_trans (D_len_mono (Nat.div_le_self (V xs) (V ys))) (D_len_V hx.lm)
    have lr := Nat.le_trans (D_len_mono (Nat.le_of_lt (Nat.mod_lt (V xs) (Nat.pos_of_ne_zero h0)))) (D_len_V hy.lm)
    have l1 : (D 1).length = 1 := by rw [D_one (by omega) (by omega)]; rfl
    have oq : Ok (D (V xs / V ys + 1)) := by
      by_cases hz : xs.length = 0
      · refine Ok_add (k := 1) hq (by omega) (by omega) (by omega)
      · exact Ok_add (k := xs.length) hq lq (by omega) hxl
    have or' : Ok (D (V xs % V ys + V ys)) := Ok_add (k := ys.length) hr lr (D_len_V hy.lm) hyl
    by_cases hd0 : sg d (V ys) < 0
    · obtain ⟨g3, g4⟩ := g1 hd0
      rw [g3, g4]
      rw [cZ_lt hd0] at hs
      have A := wadd_v (x := sg (b != d) (V xs / V ys)) (y := 1) (sg_Ok hq) Ok1 (by rw [V_D, V_D, sg_abs]; exact oq) (WV_C _) (WV_C 1)
      have S := wsub_v (x := sg b (V xs % V ys)) (d := d) (sg_Ok hr) hy (by rw [V_D, sg_abs]; exact or') (WV_C _) rfl
      unfold WV at S
      clear g1 g2 g3 g4 hsg
      generalize sg (b != d) (V xs / V ys) + 1 = qq at *
      generalize sg b (V xs % V ys) - sg d (V ys) = rr at *
      generalize sg (b != d) (V xs / V ys) = q at *
      generalize sg b (V xs % V ys) = r at *
      have hneg' := decide_eq_true hneg
      refine PCalls.enter (n := 55) (rs := [.cell 4 30, .cell 5 30, .tmp 6]) (tb := [(4, [(0, []), (1, []), (2, []), (3, []), (4, []), (5, []), (7, []), (8, []), (9, []), (6, [7, 8, 9]), (10, []), (11, []), (12, [])]), (1000004, [(0, []), (1, []), (0, []), (4, []), (15, []), (0, []), (63, []), (0, []), (128, []), (0, []), (1023, []), (2047, []), (4095, [])]), (6, [(0, []), (1, []), (2, [1]), (3, []), (4, [])]), (9, [(0, []), (1, []), (3, []), (4, []), (2, [3, 4]), (5, []), (6, []), (7, []), (8, [])]), (10, [(0, []), (1, []), (3, []), (4, []), (2, [3, 4]), (5, []), (6, []), (7, []), (8, [])])]) Try.func70 rfl rfl rfl (by kernel_rfl) (by kernel_rfl) (by simp) fun c hc ht => ?_
      simp -implicitDefEqProofs (disch := omega) only [go_sem, ht]
      (refine pCall_vw (by refine ⟨⟨?_, ?_⟩, ?_, ?_⟩; rotate_left 2; (first | (right; rintro r rfl; rfl) | left); all_goals ((try simp -implicitDefEqProofs (disch := omega) only [go_sem, ht]) <;> rfl)) (hd) ?_; rintro _ nx - rfl hnx; simp -implicitDefEqProofs (disch := omega) only [go_sem, ht])
      generalize nx = n0 at *
      (refine pCall_vw (by refine ⟨⟨?_, ?_⟩, ?_, ?_⟩; rotate_left 2; (first | (right; rintro r rfl; rfl) | left); all_goals ((try simp -implicitDefEqProofs (disch := omega) only [go_sem, ht]) <;> rfl)) (ma) ?_; rintro _ nx - rfl hnx; simp -implicitDefEqProofs (disch := omega) only [go_sem, ht])
      generalize nx = n1 at *
      (refine pCall_vw (by refine ⟨⟨?_, ?_⟩, ?_, ?_⟩; rotate_left 2; (first | (right; rintro r rfl; rfl) | left); all_goals ((try simp -implicitDefEqProofs (disch := omega) only [hneg', go_sem, ht]) <;> rfl)) (mb) ?_; rintro _ nx - rfl hnx; simp -implicitDefEqProofs (disch := omega) only [hneg', go_sem, ht])
      generalize nx = n2 at *
      (refine pCall_vw (by refine ⟨⟨?_, ?_⟩, ?_, ?_⟩; rotate_left 2; (first | (right; rintro r rfl; rfl) | left); all_goals ((try simp -implicitDefEqProofs (disch := omega) only [hneg', go_sem, ht]) <;> rfl)) (hof) ?_; rintro _ nx - rfl hnx; simp -implicitDefEqProofs (disch := omega) only [hneg', go_sem, ht])
      generalize nx = n3 at *
      (refine pCall_vw (by refine ⟨⟨?_, ?_⟩, ?_, ?_⟩; rotate_left 2; (first | (right; rintro r rfl; rfl) | left); all_goals ((try simp -implicitDefEqProofs (disch := omega) only [hneg', go_sem, ht]) <;> rfl)) (hs) ?_; rintro _ nx - rfl hnx; simp -implicitDefEqProofs (disch := omega) only [hneg', go_sem, ht])
      generalize nx = n4 at *
      (refine pCall_vw (by refine ⟨⟨?_, ?_⟩, ?_, ?_⟩; rotate_left 2; (first | (right; rintro r rfl; rfl) | left); all_goals ((try simp -implicitDefEqProofs (disch := omega) only [hneg', go_sem, ht]) <;> rfl)) (A) ?_; rintro _ nx - rfl hnx; simp -implicitDefEqProofs (disch := omega) only [hneg', go_sem, ht])
      generalize nx = n5 at *
      (refine pCall_vw (by refine ⟨⟨?_, ?_⟩, ?_, ?_⟩; rotate_left 2; (first | (right; rintro r rfl; rfl) | left); all_goals ((try simp -implicitDefEqProofs (disch := omega) only [hneg', go_sem, ht]) <;> rfl)) (S) ?_; rintro _ nx - rfl hnx; simp -implicitDefEqProofs (disch := omega) only [hneg', go_sem, ht])
      (refine end_treeM 2 ?_; simp -implicitDefEqProofs (disch := omega) only [go_sem, ht, hneg'])
    · obtain ⟨g3, g4⟩ := g2 hd0
      rw [g3, g4]
      have hs0 : ¬ cZ (sg d (V ys)) 0 < 0 := by unfold cZ; rw [if_neg hd0]; split <;> omega
      have A := wsub_v (x := sg (b != d) (V xs / V ys)) (y := 1) (sg_Ok hq) Ok1 (by rw [V_D, V_D, sg_abs]; exact oq) (WV_C _) (WV_C 1)
      have S := wadd_v (x := sg b (V xs % V ys)) (d := d) (sg_Ok hr) hy (by rw [V_D, sg_abs]; exact or') (WV_C _) rfl
      unfold WV at S
      clear g1 g2 g3 g4 hsg
      generalize cZ (sg d (V ys)) 0 = k at *
      generalize sg (b != d) (V xs / V ys) - 1 = qq at *
      generalize sg b (V xs % V ys) + sg d (V ys) = rr at *
      generalize sg (b != d) (V xs / V ys) = q at *
      generalize sg b (V xs % V ys) = r at *
      have hneg' := decide_eq_true hneg
      refine PCalls.enter (n := 55) (rs := [.cell 4 30, .cell 5 30, .tmp 6]) (tb := [(4, [(0, []), (1, []), (2, []), (3, []), (4, []), (5, []), (7, []), (8, []), (9, []), (6, [7, 8, 9]), (10, []), (11, []), (12, [])]), (1000004, [(0, []), (1, []), (0, []), (4, []), (15, []), (0, []), (63, []), (0, []), (128, []), (0, []), (1023, []), (2047, []), (4095, [])]), (6, [(0, []), (1, []), (2, [1]), (3, []), (4, [])]), (9, [(0, []), (1, []), (3, []), (4, []), (2, [3, 4]), (5, []), (6, []), (7, []), (8, [])]), (10, [(0, []), (1, []), (3, []), (4, []), (2, [3, 4]), (5, []), (6, []), (7, []), (8, [])])]) Try.func70 rfl rfl rfl (by kernel_rfl) (by kernel_rfl) (by simp) fun c hc ht => ?_
      simp -implicitDefEqProofs (disch := omega) only [go_sem, ht]
      (refine pCall_vw (by refine ⟨⟨?_, ?_⟩, ?_, ?_⟩; rotate_left 2; (first | (right; rintro r rfl; rfl) | left); all_goals ((try simp -implicitDefEqProofs (disch := omega) only [go_sem, ht]) <;> rfl)) (hd) ?_; rintro _ nx - rfl hnx; simp -implicitDefEqProofs (disch := omega) only [go_sem, ht])
      generalize nx = n0 at *
      (refine pCall_vw (by refine ⟨⟨?_, ?_⟩, ?_, ?_⟩; rotate_left 2; (first | (right; rintro r rfl; rfl) | left); all_goals ((try simp -implicitDefEqProofs (disch := omega) only [go_sem, ht]) <;> rfl)) (ma) ?_; rintro _ nx - rfl hnx; simp -implicitDefEqProofs (disch := omega) only [go_sem, ht])
      generalize nx = n1 at *
      (refine pCall_vw (by refine ⟨⟨?_, ?_⟩, ?_, ?_⟩; rotate_left 2; (first | (right; rintro r rfl; rfl) | left); all_goals ((try simp -implicitDefEqProofs (disch := omega) only [hneg', go_sem, ht]) <;> rfl)) (mb) ?_; rintro _ nx - rfl hnx; simp -implicitDefEqProofs (disch := omega) only [hneg', go_sem, ht])
      generalize nx = n2 at *
      (refine pCall_vw (by refine ⟨⟨?_, ?_⟩, ?_, ?_⟩; rotate_left 2; (first | (right; rintro r rfl; rfl) | left); all_goals ((try simp -implicitDefEqProofs (disch := omega) only [hneg', go_sem, ht]) <;> rfl)) (hof) ?_; rintro _ nx - rfl hnx; simp -implicitDefEqProofs (disch := omega) only [hneg', go_sem, ht])
      generalize nx = n3 at *
      (refine pCall_vw (by refine ⟨⟨?_, ?_⟩, ?_, ?_⟩; rotate_left 2; (first | (right; rintro r rfl; rfl) | left); all_goals ((try simp -implicitDefEqProofs (disch := omega) only [hneg', go_sem, ht]) <;> rfl)) (hs) ?_; rintro _ nx - rfl hnx; simp -implicitDefEqProofs (disch := omega) only [hneg', go_sem, ht])
      generalize nx = n4 at *
      (refine pCall_vw (by refine ⟨⟨?_, ?_⟩, ?_, ?_⟩; rotate_left 2; (first | (right; rintro r rfl; rfl) | left); all_goals ((try simp -implicitDefEqProofs (disch := omega) only [hneg', go_sem, ht]) <;> rfl)) (A) ?_; rintro _ nx - rfl hnx; simp -implicitDefEqProofs (disch := omega) only [hneg', go_sem, ht])
      generalize nx = n5 at *
      (refine pCall_vw (by refine ⟨⟨?_, ?_⟩, ?_, ?_⟩; rotate_left 2; (first | (right; rintro r rfl; rfl) | left); all_goals ((try simp -implicitDefEqProofs (disch := omega) only [hneg', go_sem, ht]) <;> rfl)) (S) ?_; rintro _ nx - rfl hnx; simp -implicitDefEqProofs (disch := omega) only [hneg', go_sem, ht])
      (refine end_treeM 2 ?_; simp -implicitDefEqProofs (disch := omega) only [go_sem, ht, hneg'])
  · obtain ⟨g1, g2⟩ := hsg.2 hneg
    rw [g1, g2]
    clear g1 g2 hsg
    generalize sg (b != d) (V xs / V ys) = q at *
    generalize sg b (V xs % V ys) = r at *
    have hneg' := decide_eq_false hneg
    refine PCalls.enter (n := 55) (rs := [.cell 4 30, .cell 5 30, .tmp 6]) (tb := [(4, [(0, []), (1, []), (2, []), (3, []), (4, []), (5, []), (7, []), (8, []), (9, []), (6, [7, 8, 9]), (10, []), (11, []), (12, [])]), (1000004, [(0, []), (1, []), (0, []), (4, []), (15, []), (0, []), (63, []), (0, []), (128, []), (0, []), (1023, []), (2047, []), (4095, [])]), (6, [(0, []), (1, []), (2, [1]), (3, []), (4, [])]), (9, [(0, []), (1, []), (3, []), (4, []), (2, [3, 4]), (5, []), (6, []), (7, []), (8, [])]), (10, [(0, []), (1, []), (3, []), (4, []), (2, [3, 4]), (5, []), (6, []), (7, []), (8, [])])]) Try.func70 rfl rfl rfl (by kernel_rfl) (by kernel_rfl) (by simp) fun c hc ht => ?_
    simp -implicitDefEqProofs (disch := omega) only [go_sem, ht]
    (refine pCall_vw (by refine ⟨⟨?_, ?_⟩, ?_, ?_⟩; rotate_left 2; (first | (right; rintro r rfl; rfl) | left); all_goals ((try simp -implicitDefEqProofs (disch := omega) only [go_sem, ht]) <;> rfl)) (hd) ?_; rintro _ nx - rfl hnx; simp -implicitDefEqProofs (disch := omega) only [go_sem, ht])
    generalize nx = n0 at *
    (refine pCall_vw (by refine ⟨⟨?_, ?_⟩, ?_, ?_⟩; rotate_left 2; (first | (right; rintro r rfl; rfl) | left); all_goals ((try simp -implicitDefEqProofs (disch := omega) only [go_sem, ht]) <;> rfl)) (ma) ?_; rintro _ nx - rfl hnx; simp -implicitDefEqProofs (disch := omega) only [go_sem, ht])
    generalize nx = n1 at *
    (refine pCall_vw (by refine ⟨⟨?_, ?_⟩, ?_, ?_⟩; rotate_left 2; (first | (right; rintro r rfl; rfl) | left); all_goals ((try simp -implicitDefEqProofs (disch := omega) only [hneg', go_sem, ht]) <;> rfl)) (mb) ?_; rintro _ nx - rfl hnx; simp -implicitDefEqProofs (disch := omega) only [hneg', go_sem, ht])
    (refine end_treeM 2 ?_; simp -implicitDefEqProofs (disch := omega) only [go_sem, ht, hneg'])
end Go.Proofs.Ytfjdfnlkobeehaa

namespace Go.Proofs.Ytfjdfnlkobeehaa

section
variable {b d : Bool} {xs ys : List Nat} {x y : Int}
theorem wtrim_v (hx : Ok xs) (ex : WV b xs = x) : PT Try.prog 34 [WX b xs] (isV (WC x)) := by subst ex; exact PWtree (wtrim_calls hx)
theorem wneg_v (hx : Ok xs) (ex : WV b xs = x) : PT Try.prog 35 [WX b xs] (isV (WC (-x))) := by subst ex; exact PWtree (wneg_calls hx)
theorem wmul_v (hx : Ok xs) (hy : Ok ys) (hp : Ok (D (V xs * V ys))) (ex : WV b xs = x) (ey : WV d ys = y) : PT Try.prog 14 [WX b xs, WX d ys] (isV (WC (x * y))) := by subst ex ey; exact PWtree (wmul_calls hx hy hp)
theorem wgcd_v (hx : Ok xs) (hy : Ok ys) (ex : WV b xs = x) (ey : WV d ys = y) (hp : Ok (D (Int.gcd x y))) : PT Try.prog 79 [WX b xs, WX d ys] (isV (WC (Int.gcd x y : Nat))) := by
  have e : Int.gcd x y = Nat.gcd (V xs) (V ys) := by rw [Int.gcd, ← ex, ← ey, WV_abs, WV_abs]
  rw [e] at hp ⊢; exact PWtree (wgcd_calls hx hy hp)
theorem wsign_v (hx : Ok xs) (ex : WV b xs = x) : PT Try.prog 33 [WX b xs] (isV (.val (.int .i64 (cZ x 0)))) := by subst ex; exact wsign_calls hx
theorem wof_v (h0 : -9223372036854775808 ≤ x) (h1 : x ≤ 9223372036854775807) : PT Try.prog 15 [.val (.int .i64 x)] (isV (WC x)) := PWtree (wof_calls h0 h1)
theorem wdivmod_v (hx : Ok xs) (hy : Ok ys) (hxl : xs.length < 1099511627776) (hyl : ys.length < 1099511627776) (ex : WV b xs = x) (ey : WV d ys = y) (h0 : y ≠ 0) :
    PT Try.prog 70 [WX b xs, WX d ys] (isV (.tup [WC (x / y), WC (x % y), .val (.bool true)])) := by
  subst ex ey
  exact wdivmod_calls hx hy (fun h => h0 (by unfold WV; rw [h]; cases d <;> rfl)) hxl hyl


end
theorem same_t {a b : Int} (ha : Ok (D a.natAbs)) (e : a = b) : PT Try.prog 32 [WC a, WC b] (isV (.val (.bool true))) := by
  subst e
  have := same_whole ha ha
  rwa [decide_eq_true rfl] at this

def Z (k : Nat) (z : Int) : Prop := z.natAbs < 4294967296 ^ k
theorem Z.ok {k : Nat} {z : Int} (h : Z k z) (hk : k ≤ 1099511627776) : Ok (D z.natAbs) := .D h hk
theorem Z.len {k : Nat} {z : Int} (h : Z k z) : (D z.natAbs).length ≤ k := D_len_le.2 h
theorem Z.mono {k m : Nat} {z : Int} (h : Z k z) (hk : k ≤ m) : Z m z := lt_mono h hk
theorem Z.add {k : Nat} {x y : Int} (hx : Z k x) (hy : Z k y) : Z (k + 1) (x + y) := Nat.lt_of_le_of_lt (Int.natAbs_add_le x y) (lt_add hx hy)
theorem Z.neg {k : Nat} {x : Int} (hx : Z k x) : Z k (-x) := by unfold Z; rw [Int.natAbs_neg]; exact hx
theorem Z.sub {k : Nat} {x y : Int} (hx : Z k x) (hy : Z k y) : Z (k + 1) (x - y) := by rw [Int.sub_eq_add_neg]; exact hx.add hy.neg
theorem Z.mul {i j : Nat} {x y : Int} (hx : Z i x) (hy : Z j y) : Z (i + j) (x * y) := by unfold Z; rw [Int.natAbs_mul]; exact lt_mul hx hy
theorem Z.le {k : Nat} {x y : Int} (hx : Z k x) (h : y.natAbs ≤ x.natAbs) : Z k y := Nat.lt_of_le_of_lt h hx
theorem Z.V {b : Bool} {xs : List Nat} {k : Nat} (hx : Lm xs) (hk : xs.length ≤ k) : Z k (WV b xs) := by unfold Z; rw [WV_abs]; exact V_lt' hx hk
theorem sameT {k : Nat} {x y : Int} (hx : Z k x) (hk : k < 1099511627776) (e : x = y) : PT Try.prog 32 [WC x, WC y] (isV (.val (.bool true))) := same_t (hx.ok (by omega)) e

theorem Z2 {x : Int} (h : x.natAbs < 4294967296) : Z 1 x := by unfold Z; omega


end Go.Proofs.Ytfjdfnlkobeehaa
end

section
set_option maxRecDepth 100000
set_option linter.unusedVariables false
set_option linter.unusedSimpArgs false
namespace Go.Proofs.Ytfjdfnlkobeehaa


def SWc (l : List (Bool × List Nat)) : List PV := l.flatMap fun p => [.val (.bool p.1), SU p.2]
def SW (l : List (Bool × List Nat)) : PV := .sl l.length (SWc l)
theorem SW_def (l : List (Bool × List Nat)) : SW l = .sl l.length (SWc l) := rfl
theorem take_2c {α : Type} (a b : α) (l : List α) : (a :: b :: l).take 2 = [a, b] := rfl
theorem spl_60 {α : Type} (a b c d e f x y : α) : spl [a, b, c, d, e, f] 0 [x, y] = [x, y, c, d, e, f] := rfl
theorem spl_62 {α : Type} (a b c d e f x y : α) : spl [a, b, c, d, e, f] 2 [x, y] = [a, b, x, y, e, f] := rfl
theorem spl_64 {α : Type} (a b c d e f x y : α) : spl [a, b, c, d, e, f] 4 [x, y] = [a, b, c, d, x, y] := rfl
theorem SWc_nil : SWc [] = [] := rfl
attribute [go_sem] SW_def take_2c spl_60 spl_62 spl_64 SWc_nil
theorem SWc_len (l : List (Bool × List Nat)) : (SWc l).length = 2 * l.length := by
  induction l with
  | nil => rfl
  | cons p l ih => simp only [SWc, List.flatMap_cons, List.length_append, List.length_cons, List.length_nil] at *; omega
theorem SWc_cons (p : Bool × List Nat) (l : List (Bool × List Nat)) : SWc (p :: l) = .val (.bool p.1) :: SU p.2 :: SWc l := rfl
theorem SWc_flat (l : List (Bool × List Nat)) : flatL (SWc l) = true := by
  induction l with
  | nil => rfl
  | cons p l ih =>
    have h1 : flat (SU p.2) = true := flat_SU _
    have h2 : flat (PV.val (.bool p.1)) = true := rfl
    rw [SWc_cons]
    simp only [flatL, h1, h2, ih, Bool.and_self]
theorem SWc_drop : ∀ (l : List (Bool × List Nat)) (i : Nat), (SWc l).drop (i * 2) = SWc (l.drop i)
  | l, 0 => by simp
  | [], i + 1 => by simp [SWc]
  | p :: l, i + 1 => by
    rw [SWc_cons, show (i + 1) * 2 = i * 2 + 1 + 1 by omega, List.drop_succ_cons, List.drop_succ_cons, List.drop_succ_cons, SWc_drop l i]
theorem SWc_at {l : List (Bool × List Nat)} {i : Nat} (h : i < l.length) : (SWc l).drop (i * 2) = .val (.bool l[i].1) :: SU l[i].2 :: SWc (l.drop (i + 1)) := by
  rw [SWc_drop, List.drop_eq_getElem_cons h, SWc_cons]

end Go.Proofs.Ytfjdfnlkobeehaa

namespace Go.Proofs.Ytfjdfnlkobeehaa


structure Wn (b : Bool) (xs : List Nat) (x : Int) (k : Nat) : Prop where
  ok : Ok xs
  val : WV b xs = x
  z : Z k x
  len : xs.length ≤ k
  hk : k ≤ 1000000
theorem Wn.raw {b : Bool} {xs : List Nat} {k : Nat} (h : Lm xs) (hl : xs.length ≤ k) (hk : k ≤ 1000000) : Wn b xs (WV b xs) k := ⟨⟨h, by omega⟩, rfl, .V h hl, hl, hk⟩
theorem Wn.C {x : Int} {k : Nat} (h : Z k x) (hk : k ≤ 1000000) : Wn (decide (x < 0)) (D x.natAbs) x k := ⟨h.ok (by omega), WV_C x, h, h.len, hk⟩
section
variable {b d : Bool} {xs ys : List Nat} {x y : Int} {k m : Nat}
theorem Wn.abs (p : Wn b xs x k) : V xs = x.natAbs := by rw [← p.val, WV_abs]
theorem subW (p : Wn b xs x k) (q : Wn d ys y k) : PT Try.prog 69 [WX b xs, WX d ys] (isV (WC (x - y))) := by
  have := p.hk
  exact wsub_v p.ok q.ok (by rw [p.abs, q.abs]; exact .D (lt_add p.z q.z) (by omega)) p.val q.val
theorem mulW (p : Wn b xs x k) (q : Wn d ys y m) : PT Try.prog 14 [WX b xs, WX d ys] (isV (WC (x * y))) := by
  have := p.hk
  have := q.hk
  exact wmul_v p.ok q.ok (by rw [p.abs, q.abs]; exact .D (lt_mul p.z q.z) (by omega)) p.val q.val
theorem negW (p : Wn b xs x k) : PT Try.prog 35 [WX b xs] (isV (WC (-x))) := wneg_v p.ok p.val
theorem trimW (p : Wn b xs x k) : PT Try.prog 34 [WX b xs] (isV (WC x)) := wtrim_v p.ok p.val
theorem signW (p : Wn b xs x k) : PT Try.prog 33 [WX b xs] (isV (.val (.int .i64 (cZ x 0)))) := wsign_v p.ok p.val
theorem limbsW (p : Wn b xs x k) : PT Try.prog 36 [WX b xs] (isV (.val (.int .i64 ((bl x.natAbs + 31) / 32 : Nat)))) := by
  rw [← p.abs]; exact wlimbs_calls p.ok
theorem gcdW (p : Wn b xs x k) (q : Wn d ys y m) : PT Try.prog 79 [WX b xs, WX d ys] (isV (WC (Int.gcd x y : Nat))) := by
  have := p.hk
  have := q.hk
  refine wgcd_v p.ok q.ok p.val q.val ?_
  by_cases h0 : x = 0
  · subst h0
    rw [Int.gcd_zero_left]
    exact q.z.ok (by omega)
  · exact (show Ok (D x.natAbs) from p.z.ok (by omega)) |> fun h => Ok_le h (Nat.le_of_dvd (by omega) (Nat.gcd_dvd_left _ _))
theorem divW (p : Wn b xs x k) (q : Wn d ys y m) (h0 : y ≠ 0) : PT Try.prog 70 [WX b xs, WX d ys] (isV (.tup [WC (x / y), WC (x % y), .val (.bool true)])) := by
  have := p.hk
  have := q.hk
  have := p.len
  have := q.len
  exact wdivmod_v p.ok q.ok (by omega) (by omega) p.val q.val h0
theorem divZ (p : Wn b xs x k) (q : Wn d ys 0 m) : PT Try.prog 70 [WX b xs, WX d ys] (isV (.tup [WC 0, WC 0, .val (.bool false)])) :=
  wdivmod_z p.ok q.ok (by rw [q.abs]; rfl)
end
theorem Z.div {k : Nat} {x y : Int} (hx : Z k x) : Z k (x / y) := Z.le hx (Int.natAbs_ediv_le_natAbs x y)
end Go.Proofs.Ytfjdfnlkobeehaa
end

section
set_option maxRecDepth 100000
set_option linter.unusedVariables false
set_option linter.unusedSimpArgs false
namespace Go.Proofs.Ytfjdfnlkobeehaa

theorem frz_rp (D : Nat → Bool) (H : Nat → Option (List PV)) (d : Nat) (cs : List PV) : Ytfjdfnlkobeehaa.frz D H (d + 1) (.rp cs) = if flatL cs = true then some (.rp cs) else none := rfl
attribute [go_sem] frz_rp
theorem copyw_calls {b : Bool} {xs : List Nat} (h : Ok xs) : PO1 Try.prog 63 [WX b xs] (fun p => .agg [.val (.bool b), p]) (xs.map U) := by
  have hcp := copy_calls h
  have := h.len
  refine PCalls.enter (n := 9) (rs := [.cell 2 30]) (tb := [(1, [(0, []), (1, []), (2, []), (3, []), (4, [0, 1]), (5, []), (6, [])])]) Try.func63 rfl rfl rfl (by kernel_rfl) (by kernel_rfl) (by simp) fun c hc ht => ?_
  simp -implicitDefEqProofs (disch := omega) only [go_sem, ht]
  (refine pCall_own1 (mk := fun p => p) (mk_id) (by simp -implicitDefEqProofs (disch := omega) only [go_sem, ht] <;> rfl) (by simp -implicitDefEqProofs (disch := omega) only [go_sem, ht]) (closedL_U _) (flatL_U _) (hcp) ?_; intro id1 cap1 rest1 nx1 hid1 hnx1 hcap1; simp only [put_nx, withH_nx, begP_nx, List.length_map] at hid1 hcap1; simp -implicitDefEqProofs (disch := omega) only [go_sem, ht])
  exact end_own1 (mk := fun p => .agg [.val (.bool b), p]) (by simp -implicitDefEqProofs (disch := omega) only [go_sem, ht] <;> rfl) (by simp -implicitDefEqProofs (disch := omega) only [go_sem, ht] <;> rfl) (by simp <;> omega) (by simp <;> omega)
end Go.Proofs.Ytfjdfnlkobeehaa
end
