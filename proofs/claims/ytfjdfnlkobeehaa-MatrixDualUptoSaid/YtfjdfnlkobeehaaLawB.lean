/- What the laws share: quotients, divisors, moves. -/
import Derived.Test.YtfjdfnlkobeehaaLawA
import Derived.Test.YtfjdfnlkobeehaaLimbsB
set_option maxRecDepth 100000
set_option linter.unusedVariables false
set_option linter.unusedSimpArgs false
namespace Go.Proofs.Ytfjdfnlkobeehaa

theorem Ok_le {a b : Nat} (h : Ok (D b)) (hab : a ≤ b) : Ok (D a) := ⟨Lm_D _, Nat.le_trans (D_len_mono hab) h.len⟩
section
variable {xs ys : List Nat} {a b : Nat}
theorem divmod_v (hx : Ok xs) (hy : Ok ys) (ha : V xs = a) (hb : V ys = b) (h0 : b ≠ 0) : PT Try.prog 104 [SU xs, SU ys] (isV (.tup [SU (D (a / b)), SU (D (a % b)), .val (.bool true)])) := by
  subst ha hb
  have := divmod_calls hx hy
  unfold divP at this
  rw [if_neg h0, decide_eq_true h0] at this
  exact this
theorem divmod_z (hx : Ok xs) (hy : Ok ys) (hb : V ys = 0) : PT Try.prog 104 [SU xs, SU ys] (isV (.tup [SU [], SU [], .val (.bool false)])) := by
  have := divmod_calls hx hy
  unfold divP at this
  rw [if_pos hb, hb, Nat.div_zero, D_zero] at this
  exact this
theorem gcd_v (hx : Ok xs) (hy : Ok ys) (ha : V xs = a) (hb : V ys = b) : PT Try.prog 118 [SU xs, SU ys] (isV (SU (D (Nat.gcd a b)))) := by
  subst ha hb
  exact PLtree (gcd_calls hx hy)
-- left out: limbs.Left
theorem right_v {k : Nat} (hx : Ok xs) (ha : V xs = a) (hk : k ≤ 4096) : PT Try.prog 140 [SU xs, .val (.int .i64 k)] (isV (.tup [SU (D (a / 2 ^ k)), .val (.int .i64 0)])) := by
  subst ha
  have := PO1.tree (mk_b _) (flatL_U _) (right_calls (s := (k : Int)) hx (by omega) (by omega))
  rw [if_neg (by omega), if_neg (by omega)] at this
  simpa [SU_def] using this
end
theorem bl_pos' {n : Nat} (h : n ≠ 0) : 0 < bl n := by rw [bl_pos h]; omega
end Go.Proofs.Ytfjdfnlkobeehaa
