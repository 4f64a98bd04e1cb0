/- Lists of so many limbs. No program here. -/
import Derived.Test.YtfbmdbgjfnkmiaaBl
set_option linter.unusedVariables false
set_option linter.unusedSimpArgs false
namespace Go.Proofs.Ytfbmdbgjfnkmiaa

/-- n limbs of v. -/
def pad : Nat → Nat → List Nat
  | 0, _ => []
  | n + 1, v => v % 4294967296 :: pad n (v / 4294967296)
theorem pad_len (n v : Nat) : (pad n v).length = n := by
  induction n generalizing v with
  | zero => rfl
  | succ n ih => simp [pad, ih]
theorem pad_lm (n v : Nat) : Lm (pad n v) := by
  induction n generalizing v with
  | zero => exact Lm_nil
  | succ n ih => exact Lm_cons.2 ⟨Nat.mod_lt _ (by decide), ih _⟩
theorem pad_V (n v : Nat) : V (pad n v) = v % 4294967296 ^ n := by
  induction n generalizing v with
  | zero => simp [pad, V, Nat.mod_one]
  | succ n ih =>
    simp only [pad, V, ih, Nat.pow_succ]
    rw [Nat.mul_comm (4294967296 ^ n), Nat.mod_mul]
theorem pad_of {xs : List Nat} {n : Nat} (h : Lm xs) (hl : xs.length = n) : pad n (V xs) = xs := by
  refine V_inj (pad_lm _ _) h (by rw [pad_len, hl]) ?_
  rw [pad_V, Nat.mod_eq_of_lt]
  rw [← hl]; exact V_lt h

theorem right_step {r : Nat} (hr : r < 32) (v w : Nat) : (v + 18446744073709551616 * w) / 2 ^ r % 4294967296 = v / 2 ^ r % 4294967296 := by
  have hp : 0 < 2 ^ r := Nat.pow_pos (by decide)
  obtain ⟨m, hm⟩ : ∃ m, 18446744073709551616 = 2 ^ r * (m * 4294967296) := by
    refine ⟨2 ^ (32 - r), ?_⟩
    have h : 2 ^ r * 2 ^ (32 - r) = 4294967296 := by
      rw [← Nat.pow_add, show r + (32 - r) = 32 by omega]
    rw [← Nat.mul_assoc, h]
  generalize 18446744073709551616 = c at hm
  subst hm
  rw [Nat.mul_assoc, Nat.add_mul_div_left _ _ hp, Nat.mul_right_comm, Nat.mul_comm _ 4294967296, Nat.add_mul_mod_self_left]

end Go.Proofs.Ytfbmdbgjfnkmiaa
