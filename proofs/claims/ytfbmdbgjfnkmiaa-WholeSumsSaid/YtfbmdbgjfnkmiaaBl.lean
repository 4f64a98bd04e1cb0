/- How many bits a natural takes. No program here. -/
import Derived.Test.YtfbmdbgjfnkmiaaLim
set_option linter.unusedVariables false
set_option linter.unusedSimpArgs false
namespace Go.Proofs.Ytfbmdbgjfnkmiaa

def bl (n : Nat) : Nat := if h : n = 0 then 0 else bl (n / 2) + 1
termination_by n
decreasing_by omega
theorem bl_zero : bl 0 = 0 := by rw [bl]; simp
theorem bl_pos {n : Nat} (h : n ≠ 0) : bl n = bl (n / 2) + 1 := by rw [bl]; simp [h]
theorem bl_le {n k : Nat} : bl n ≤ k ↔ n < 2 ^ k := by
  induction k generalizing n with
  | zero =>
    constructor
    · intro h
      by_cases h0 : n = 0
      · omega
      · rw [bl_pos h0] at h; omega
    · intro h; have : n = 0 := by simpa using h
      subst this; rw [bl_zero]; omega
  | succ k ih =>
    by_cases h0 : n = 0
    · subst h0; rw [bl_zero]; simp; exact Nat.pow_pos (by decide)
    · rw [bl_pos h0, Nat.pow_succ]
      have := ih (n := n / 2)
      constructor
      · intro h; have := this.1 (by omega); omega
      · intro h; have := this.2 (by omega); omega
theorem bl_eq {n k : Nat} (h1 : 2 ^ k ≤ n) (h2 : n < 2 ^ (k + 1)) : bl n = k + 1 := by
  have := bl_le.2 h2
  have : ¬ bl n ≤ k := fun h => by have := bl_le.1 h; omega
  omega
theorem bl_lt {n : Nat} : n < 2 ^ bl n := bl_le.1 (Nat.le_refl _)
theorem bl_ge {n : Nat} (h : n ≠ 0) : 2 ^ (bl n - 1) ≤ n := by
  have : 0 < bl n := by rw [bl_pos h]; omega
  have h1 : ¬ bl n ≤ bl n - 1 := by omega
  exact Nat.le_of_not_lt fun hh => h1 (bl_le.2 hh)
theorem bl_mono {a b : Nat} (h : a ≤ b) : bl a ≤ bl b := bl_le.2 (Nat.lt_of_le_of_lt h bl_lt)
/-- Moved up. -/
theorem bl_shift {n r k : Nat} (hn : n ≠ 0) (hr : r < 2 ^ k) : bl (r + 2 ^ k * n) = k + bl n := by
  obtain ⟨m, hm⟩ : ∃ m, bl n = m + 1 := ⟨bl n - 1, by have := bl_pos hn; omega⟩
  have h1 := bl_ge hn
  have h2 := bl_lt (n := n)
  rw [hm] at h1 h2 ⊢
  simp only [Nat.add_sub_cancel] at h1
  refine bl_eq (k := k + m) ?_ ?_
  · rw [Nat.pow_add]
    have := Nat.mul_le_mul_left (2 ^ k) h1
    omega
  · rw [Nat.add_assoc, Nat.pow_add]
    have := Nat.mul_le_mul_left (2 ^ k) (show n + 1 ≤ 2 ^ (m + 1) by omega)
    rw [Nat.mul_add] at this
    omega
theorem bl_div {n : Nat} (k : Nat) (h : 2 ^ k ≤ n) : bl n = k + bl (n / 2 ^ k) := by
  have h0 : 0 < 2 ^ k := Nat.pow_pos (by decide)
  have := bl_shift (n := n / 2 ^ k) (r := n % 2 ^ k) (k := k) (by have := Nat.div_pos h h0; omega) (Nat.mod_lt _ h0)
  rwa [Nat.mod_add_div] at this
theorem pow32 (k : Nat) : 4294967296 ^ k = 2 ^ (32 * k) := by rw [Nat.pow_mul]
/-- By the top limb. -/
theorem bl_top {n : Nat} (h : n ≠ 0) : bl n = 32 * ((D n).length - 1) + bl ((D n).getD ((D n).length - 1) 0) := by
  have hl := D_len_pos h
  have ht := D_last n h
  have hs := V_split (D n) (i := (D n).length - 1) (by omega)
  have hd := V_drop (D n) (i := (D n).length - 1) (by omega)
  rw [show (D n).length - 1 + 1 = (D n).length by omega, List.drop_length] at hd
  simp only [V, Nat.mul_zero, Nat.add_zero] at hd
  rw [hd, V_D, pow32] at hs
  have hlt := V_lt ((Lm_D n).take ((D n).length - 1))
  rw [List.length_take_of_le (by omega), pow32] at hlt
  conv => lhs; rw [hs]
  exact bl_shift ht hlt

end Go.Proofs.Ytfbmdbgjfnkmiaa
