/- What the laws share: sizes, and the first tests. -/
import Derived.Test.YtfjdfnlkobeehaaAwake
import Derived.Test.YtfjdfnlkobeehaaLimbsA
import Derived.Test.YtfjdfnlkobeehaaLaw
import Derived.Test.YtfjdfnlkobeehaaRows
import Derived.WalkKit
set_option maxRecDepth 100000
set_option linter.unusedVariables false
set_option linter.unusedSimpArgs false
namespace Go.Proofs.Ytfjdfnlkobeehaa

theorem law_own : ownKnob Try.prog.godebug = none := by kernel_rfl
theorem law_laidOut : laidOutB Try.prog = true := by kernel_rfl
theorem lt_add {a b k : Nat} (ha : a < 4294967296 ^ k) (hb : b < 4294967296 ^ k) : a + b < 4294967296 ^ (k + 1) := by
  rw [Nat.pow_succ]; omega
theorem lt_mono {a k m : Nat} (h : a < 4294967296 ^ k) (hk : k ≤ m) : a < 4294967296 ^ m := Nat.lt_of_lt_of_le h (Nat.pow_le_pow_right (by decide) hk)
theorem lt_mul {a b i j : Nat} (ha : a < 4294967296 ^ i) (hb : b < 4294967296 ^ j) : a * b < 4294967296 ^ (i + j) := by
  rw [Nat.pow_add]; exact Nat.mul_lt_mul'' ha hb
theorem V_lt' {xs : List Nat} {k : Nat} (h : Lm xs) (hk : xs.length ≤ k) : V xs < 4294967296 ^ k :=
  Nat.lt_of_lt_of_le (V_lt h) (Nat.pow_le_pow_right (by decide) hk)
theorem D_eq {a b : Nat} : D a = D b ↔ a = b := ⟨fun h => by rw [← V_D a, h, V_D], fun h => by rw [h]⟩
theorem add_tree {xs ys : List Nat} (hx : Ok xs) (hy : Ok ys) : PT Try.prog 50 [SU xs, SU ys] (isV (SU (D (V xs + V ys)))) := PLtree (add_calls hx hy)
theorem sub_tree {xs ys : List Nat} (hx : Ok xs) (hy : Ok ys) : PT Try.prog 51 [SU xs, SU ys] (isV (.tup [SU (D (V xs - V ys)), .val (.bool (decide (V ys ≤ V xs)))])) := by
  have := PO1.tree (mk_b _) (flatL_U _) (sub_calls hx hy)
  simpa [SU_def] using this
theorem trim_tree {xs : List Nat} (hx : Ok xs) : PT Try.prog 77 [SU xs] (isV (SU (D (V xs)))) := PLtree (trim_calls hx)
theorem sizes3 {x y z : Nat} (h : ¬ 1500 < x + y + z) : ∃ K, K ≤ 1500 ∧ x ≤ K ∧ y ≤ K ∧ z ≤ K := ⟨1500, Nat.le_refl _, by omega, by omega, by omega⟩
theorem sizes2 {x y : Nat} (h : ¬ 1500 < x + y) : ∃ K, K ≤ 1500 ∧ x ≤ K ∧ y ≤ K := ⟨1500, Nat.le_refl _, by omega, by omega⟩
section
variable {xs ys : List Nat} {a b : Nat}
theorem add_v (hx : Ok xs) (hy : Ok ys) (ha : V xs = a) (hb : V ys = b) : PT Try.prog 50 [SU xs, SU ys] (isV (SU (D (a + b)))) := by
  subst ha hb; exact add_tree hx hy
theorem mul_v (hx : Ok xs) (hy : Ok ys) (ha : V xs = a) (hb : V ys = b) : PT Try.prog 48 [SU xs, SU ys] (isV (SU (D (a * b)))) := by
  subst ha hb; exact PLtree (mul_calls hx hy)
theorem sub_v (hx : Ok xs) (hy : Ok ys) (ha : V xs = a) (hb : V ys = b) : PT Try.prog 51 [SU xs, SU ys] (isV (.tup [SU (D (a - b)), .val (.bool (decide (b ≤ a)))])) := by
  subst ha hb; exact sub_tree hx hy
theorem trim_v (hx : Ok xs) (ha : V xs = a) : PT Try.prog 77 [SU xs] (isV (SU (D a))) := by
  subst ha; exact trim_tree hx
theorem cmp_v (hx : Ok xs) (hy : Ok ys) (ha : V xs = a) (hb : V ys = b) : PT Try.prog 89 [SU xs, SU ys] (isV (.val (.int .i64 (cmpI a b)))) := by
  subst ha hb; exact cmp_calls hx hy
theorem bits_v (hx : Ok xs) (ha : V xs = a) : PT Try.prog 76 [SU xs] (isV (.val (.int .i64 (bl a)))) := by
  subst ha; exact bits_calls hx
/-- Two lists are the same. -/
theorem same_v (ha : Ok (D a)) (hb : Ok (D b)) (e : a = b) : PT Try.prog 75 [SU (D a), SU (D b)] (isV (.val (.bool true))) := by
  subst e
  have := same_calls ha hb
  simpa using this
end
theorem Ok.nil : Ok [] := ⟨Lm_nil, by simp⟩
theorem Ok.one {n : Nat} (h : n < 4294967296) : Ok [n] := ⟨by intro x hx; simp at hx; omega, by simp⟩
theorem add_D {a b : Nat} (ha : Ok (D a)) (hb : Ok (D b)) : PT Try.prog 50 [SU (D a), SU (D b)] (isV (SU (D (a + b)))) := by
  have := add_tree ha hb
  rwa [V_D, V_D] at this
theorem cmp_D {a b : Nat} (ha : Ok (D a)) (hb : Ok (D b)) : PT Try.prog 89 [SU (D a), SU (D b)] (isV (.val (.int .i64 (cmpI a b)))) := by
  have := cmp_calls ha hb
  rwa [V_D, V_D] at this
theorem same_D {a b : Nat} (ha : Ok (D a)) (hb : Ok (D b)) : PT Try.prog 75 [SU (D a), SU (D b)] (isV (.val (.bool (decide (a = b))))) := by
  have := same_calls ha hb
  simpa only [D_eq] using this
end Go.Proofs.Ytfjdfnlkobeehaa
