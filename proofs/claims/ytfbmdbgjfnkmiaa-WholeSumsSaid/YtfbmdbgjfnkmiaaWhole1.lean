/- The program's whole: numbers with their signs, what they are, and how a sign is put to a magnitude. -/
import Derived.Test.YtfbmdbgjfnkmiaaLawB
import Derived.Test.YtfbmdbgjfnkmiaaLimbsB
import Derived.Test.YtfbmdbgjfnkmiaaAgg
set_option maxRecDepth 100000
set_option linter.unusedVariables false
set_option linter.unusedSimpArgs false
namespace Go.Proofs.Ytfbmdbgjfnkmiaa

/-- A number with its sign, as it is read. -/
def WX (b : Bool) (xs : List Nat) : PV := .agg [.val (.bool b), SU xs]
theorem WX_def (b : Bool) (xs : List Nat) : WX b xs = .agg [.val (.bool b), SU xs] := rfl
/-- What it says. -/
def sg (b : Bool) (n : Nat) : Int := if b then -(n : Int) else n
def WV (b : Bool) (xs : List Nat) : Int := sg b (V xs)
/-- A number as it is told. -/
def WC (z : Int) : PV := WX (decide (z < 0)) (D z.natAbs)
theorem WC_def (z : Int) : WC z = .agg [.val (.bool (decide (z < 0))), SU (D z.natAbs)] := rfl
attribute [go_sem] WX_def WC_def
theorem flat_WX (b : Bool) (xs : List Nat) : flat (WX b xs) = true := by
  have := flatL_U xs
  simp [WX, SU, flat, flatL, this]
theorem sg_t (n : Nat) : sg true n = -(n : Int) := rfl
theorem sg_f (n : Nat) : sg false n = n := rfl
theorem sg_abs (b : Bool) (n : Nat) : (sg b n).natAbs = n := by cases b <;> simp [sg]
theorem sg_neg (b : Bool) (n : Nat) : decide (sg b n < 0) = (b && decide (0 < (D n).length)) := by
  have h : (D n).length = 0 ↔ n = 0 := D_len_zero
  cases b
  · simp [sg]
  · simp only [sg, if_true, Bool.true_and, decide_eq_decide]
    omega
theorem WV_C (z : Int) : WV (decide (z < 0)) (D z.natAbs) = z := by
  unfold WV sg
  rw [V_D]
  by_cases h : z < 0
  · simp only [h, decide_true, if_true]; omega
  · simp only [h, decide_false, if_false, Bool.false_eq_true]; omega
theorem WV_abs (b : Bool) (xs : List Nat) : (WV b xs).natAbs = V xs := sg_abs b _

/-- An answer that is one number, its list its own. -/
def mkW (z : Int) : PV → PV := fun p => .agg [.val (.bool (decide (z < 0))), p]
theorem mk_W (z : Int) : Mk1 (mkW z) := mk_w _
theorem mkW_def (z : Int) (p : PV) : mkW z p = .agg [.val (.bool (decide (z < 0))), p] := rfl
attribute [go_sem] mkW_def
abbrev PW (f : FuncId) (args : List PV) (z : Int) : Prop := PO1 Try.prog f args (mkW z) ((D z.natAbs).map U)
theorem PWtree {f : FuncId} {args : List PV} {z : Int} (h : PW f args z) : PT Try.prog f args (isV (WC z)) := by
  have := PO1.tree (mk_W z) (flatL_U _) h
  simpa [WC, WX, SU_def, mkW] using this
theorem PW.of {f : FuncId} {args : List PV} {z : Int} (b : Bool) (n : Nat) (h : PO1 Try.prog f args (fun p => .agg [.val (.bool (b && decide (0 < (D n).length))), p]) ((D n).map U)) (hz : sg b n = z) : PW f args z := by
  subst hz
  unfold PW mkW
  rw [sg_abs, sg_neg]
  exact h

theorem made_own {H : Nat → Option (List PV)} {nx id n cap : Nat} {b : Bool} (h : H nx = none) :
    PCalls Try.prog 63 [.val (.bool b), .ref id 0 n cap 1] H nx (memR (.agg [.val (.bool (b && decide (0 < n))), .ref id 0 n cap 1]) H) := by
  refine PCalls.enter (n := 13) (rs := [.cell 4 28]) (tb := []) Try.func63 rfl rfl rfl (by kernel_rfl) (by kernel_rfl) (by simp) fun c hc ht => ?_
  cases b
  · simp -implicitDefEqProofs (disch := omega) only [go_sem, ht, eq_self]
    refine end_mem (by simp -implicitDefEqProofs (disch := omega) only [go_sem, ht, Bool.false_and, eq_self]) fun i => ?_
    simp -implicitDefEqProofs (disch := omega) only [go_sem, ht, eq_self]
    exact upd_less h i
  · simp -implicitDefEqProofs (disch := omega) only [go_sem, ht, eq_self]
    refine end_mem (by simp -implicitDefEqProofs (disch := omega) only [go_sem, ht, Bool.true_and, Int.natCast_pos, eq_self]) fun i => ?_
    simp -implicitDefEqProofs (disch := omega) only [go_sem, ht, eq_self]
    exact upd_less h i
theorem made_calls {b : Bool} {xs : List Nat} (hx : xs.length ≤ 1099511627776) : PT Try.prog 63 [.val (.bool b), SU xs] (isV (WX (b && decide (0 < xs.length)) xs)) := by
  refine PCalls.enter (n := 13) (rs := [.cell 4 28]) (tb := []) Try.func63 rfl rfl rfl (by kernel_rfl) (by kernel_rfl) (by simp) fun c hc ht => ?_
  cases b
  · simp -implicitDefEqProofs (disch := omega) only [go_sem, ht, eq_self]
    (refine end_treeW 0 ?_; simp -implicitDefEqProofs (disch := omega) only [go_sem, ht, Bool.false_and, Bool.true_and, Int.natCast_pos, eq_self])
  · simp -implicitDefEqProofs (disch := omega) only [go_sem, ht, eq_self]
    (refine end_treeW 0 ?_; simp -implicitDefEqProofs (disch := omega) only [go_sem, ht, Bool.false_and, Bool.true_and, Int.natCast_pos, eq_self])
end Go.Proofs.Ytfbmdbgjfnkmiaa
