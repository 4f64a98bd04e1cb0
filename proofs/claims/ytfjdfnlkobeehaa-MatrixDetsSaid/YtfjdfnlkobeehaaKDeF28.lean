/- Part 28 of the way to the statement: the walk and what it needs. -/
import Derived.Test.YtfjdfnlkobeehaaKDeF24
import Derived.Test.YtfjdfnlkobeehaaKDeF26
import Derived.Test.YtfjdfnlkobeehaaKDeF27
import Derived.Test.YtfjdfnlkobeehaaRows
import Derived.WalkKit
section
set_option maxRecDepth 100000
set_option linter.unusedVariables false
set_option linter.unusedSimpArgs false
namespace Go.Proofs.Ytfjdfnlkobeehaa

theorem law_own : ownKnob Try.prog.godebug = none := by kernel_rfl
theorem law_laidOut : laidOutB Try.prog = true := by kernel_rfl
theorem lt_add {a b k : Nat} (ha : a < 4294967296 ^ k) (hb : b < 4294967296 ^ k) : a + b < 4294967296 ^ (k + 1) := by
  rw [Nat.pow_succ]; omega
theorem lt_mono {a k m : Nat} (h : a < 4294967296 ^ k) (hk : k ≤ m) : a < 4294967296 ^ m := Nat.lt_of_lt_of_le h (Nat.pow_le_pow_right (by decide) hk)
theorem lt_mul {a b i j : Nat} (ha : a < 4294967296 ^ i) (hb : b < 4294967296 ^ j) : a * b < 4294967296 ^ (i + j) := by
  rw [Nat.pow_add]; exact Nat.mul_lt_mul'' ha hb
theorem V_lt' {xs : List Nat} {k : Nat} (h : Lm xs) (hk : xs.length ≤ k) : V xs < 4294967296 ^ k :=
  Nat.lt_of_lt_of_le (V_lt h) (Nat.pow_le_pow_right (by decide) hk)
theorem D_eq {a b : Nat} : D a = D b ↔ a = b := ⟨fun h => by rw [← V_D a, h, V_D], fun h => by rw [h]⟩
theorem sub_tree {xs ys : List Nat} (hx : Ok xs) (hy : Ok ys) : PT Try.prog 51 [SU xs, SU ys] (isV (.tup [SU (D (V xs - V ys)), .val (.bool (decide (V ys ≤ V xs)))])) := by
  have := PO1.tree (mk_b _) (flatL_U _) (sub_calls hx hy)
  simpa [SU_def] using this
end Go.Proofs.Ytfjdfnlkobeehaa
end

section
set_option maxRecDepth 100000
set_option linter.unusedVariables false
set_option linter.unusedSimpArgs false
namespace Go.Proofs.Ytfjdfnlkobeehaa

theorem Ok_le {a b : Nat} (h : Ok (D b)) (hab : a ≤ b) : Ok (D a) := ⟨Lm_D _, Nat.le_trans (D_len_mono hab) h.len⟩
section
variable {xs ys : List Nat} {a b : Nat}
theorem divmod_v (hx : Ok xs) (hy : Ok ys) (ha : V xs = a) (hb : V ys = b) (h0 : b ≠ 0) : PT Try.prog 104 [SU xs, SU ys] (isV (.tup [SU (D (a / b)), SU (D (a % b)), .val (.bool true)])) := by
  subst ha hb
  have := divmod_calls hx hy
  unfold divP at this
  rw [if_neg h0, decide_eq_true h0] at this
  exact this
theorem divmod_z (hx : Ok xs) (hy : Ok ys) (hb : V ys = 0) : PT Try.prog 104 [SU xs, SU ys] (isV (.tup [SU [], SU [], .val (.bool false)])) := by
  have := divmod_calls hx hy
  unfold divP at this
  rw [if_pos hb, hb, Nat.div_zero, D_zero] at this
  exact this
end
theorem bl_pos' {n : Nat} (h : n ≠ 0) : 0 < bl n := by rw [bl_pos h]; omega
end Go.Proofs.Ytfjdfnlkobeehaa
end
