/- The laws' copies of a whole number and of a fraction. -/
import Derived.Test.YtfjdfnlkobeehaaRefA
import Derived.Test.YtfjdfnlkobeehaaWholeB
set_option maxRecDepth 100000
set_option linter.unusedVariables false
set_option linter.unusedSimpArgs false
namespace Go.Proofs.Ytfjdfnlkobeehaa

theorem frz_rp (D : Nat → Bool) (H : Nat → Option (List PV)) (d : Nat) (cs : List PV) : Ytfjdfnlkobeehaa.frz D H (d + 1) (.rp cs) = if flatL cs = true then some (.rp cs) else none := rfl
attribute [go_sem] frz_rp
theorem copyw_calls {b : Bool} {xs : List Nat} (h : Ok xs) : PO1 Try.prog 63 [WX b xs] (fun p => .agg [.val (.bool b), p]) (xs.map U) := by
  have hcp := copy_calls h
  have := h.len
  refine PCalls.enter (n := 9) (rs := [.cell 2 30]) (tb := [(1, [(0, []), (1, []), (2, []), (3, []), (4, [0, 1]), (5, []), (6, [])])]) Try.func63 rfl rfl rfl (by kernel_rfl) (by kernel_rfl) (by simp) fun c hc ht => ?_
  simp -implicitDefEqProofs (disch := omega) only [go_sem, ht, eq_self]
  (refine pCall_own1 (mk := fun p => p) (mk_id) (by simp -implicitDefEqProofs (disch := omega) only [go_sem, ht, eq_self] <;> rfl) (by simp -implicitDefEqProofs (disch := omega) only [go_sem, ht, eq_self]) (closedL_U _) (flatL_U _) (hcp) ?_; intro id1 cap1 rest1 nx1 hid1 hnx1 hcap1; simp only [put_nx, withH_nx, begP_nx, List.length_map] at hid1 hcap1; simp -implicitDefEqProofs (disch := omega) only [go_sem, ht, eq_self])
  exact end_own1 (mk := fun p => .agg [.val (.bool b), p]) (by simp -implicitDefEqProofs (disch := omega) only [go_sem, ht, eq_self] <;> rfl) (by simp -implicitDefEqProofs (disch := omega) only [go_sem, ht, eq_self] <;> rfl) (by simp <;> omega) (by simp <;> omega)
end Go.Proofs.Ytfjdfnlkobeehaa
