/- Part 43 of the way to the statement: the walk and what it needs. -/
import Derived.Test.YtfjdfnlkobeehaaKReF37
section
set_option linter.unusedVariables false
set_option linter.unusedSimpArgs false
namespace Go.Proofs.Ytfjdfnlkobeehaa


def mulL (t : Int) (z : List Int) : List Int := z.map (t * ·)
theorem mulL_one (z : List Int) : mulL 1 z = z := by simp [mulL]
theorem mulL_neg (z : List Int) : z.map (- ·) = mulL (-1) z := by simp [mulL]
theorem mulL_mulL (s t : Int) (z : List Int) : mulL s (mulL t z) = mulL (s * t) z := by simp [mulL, Int.mul_assoc]
theorem mulL_len (t : Int) (z : List Int) : (mulL t z).length = z.length := by simp [mulL]
theorem mulL_vc (t : Int) (z : List Int) (j : Nat) : vc (mulL t z) j = t * vc z j := by
  by_cases h : j < z.length
  · rw [vc_lt (by rw [mulL_len]; exact h), vc_lt h]; simp [mulL]
  · rw [vc_ge (by rw [mulL_len]; omega), vc_ge (by omega), Int.mul_zero]
theorem upZ_mul (z : List Int) : ∃ s : Int, (s = 1 ∨ s = -1) ∧ upZ z = mulL s z := by
  rcases upZ_cases z with e | e
  · exact ⟨1, .inl rfl, by rw [e, mulL_one]⟩
  · exact ⟨-1, .inr rfl, by rw [e, mulL_neg]⟩
theorem gcdF_mul (t : Int) : ∀ (z : List Int) (g : Nat), gcdF (t.natAbs * g) (mulL t z) = t.natAbs * gcdF g z
  | [], _ => rfl
  | x :: z, g => by
    show gcdF (Nat.gcd (t.natAbs * g) (t * x).natAbs) (mulL t z) = _
    rw [Int.natAbs_mul, Nat.gcd_mul_left, gcdF_mul t z]; rfl
theorem gcdL_mul (t : Int) (z : List Int) : gcdL (mulL t z) = t.natAbs * gcdL z := by
  have := gcdF_mul t z 0
  rwa [Nat.mul_zero] at this
theorem cZ_mul {t x : Int} (ht : t ≠ 0) : cZ (t * x) 0 = cZ t 0 * cZ x 0 := by
  unfold cZ
  rcases Int.lt_or_gt_of_ne ht with h | h <;> rcases Int.lt_trichotomy x 0 with hx | hx | hx
  · have := Int.mul_pos_of_neg_of_neg h hx
    rw [if_neg (by omega), if_neg (by omega), if_pos h, if_pos hx]; rfl
  · subst hx; rw [Int.mul_zero]; simp
  · have := Int.mul_neg_of_neg_of_pos h hx
    rw [if_pos this, if_pos h, if_neg (by omega), if_neg (by omega)]; rfl
  · have := Int.mul_neg_of_pos_of_neg h hx
    rw [if_pos this, if_neg (by omega), if_neg (by omega), if_pos hx]; rfl
  · subst hx; rw [Int.mul_zero]; simp
  · have := Int.mul_pos h hx
    rw [if_neg (by omega), if_neg (by omega), if_neg (by omega), if_neg (by omega), if_neg (by omega), if_neg (by omega)]; rfl
theorem cZ_zero {x : Int} : cZ x 0 = 0 ↔ x = 0 := by unfold cZ; split <;> (try split) <;> omega
theorem sgF_mul {t : Int} (ht : t ≠ 0) : ∀ (z : List Int) (g : Int), sgF (cZ t 0 * g) (mulL t z) = cZ t 0 * sgF g z
  | [], _ => rfl
  | x :: z, g => by
    show sgF (if cZ t 0 * g = 0 then cZ (t * x) 0 else cZ t 0 * g) (mulL t z) = cZ t 0 * sgF (if g = 0 then cZ x 0 else g) z
    have h0 : cZ t 0 ≠ 0 := fun h => ht (cZ_zero.1 h)
    by_cases hg : g = 0
    · subst hg
      rw [if_pos (Int.mul_zero _), if_pos rfl, cZ_mul ht]
      exact sgF_mul ht z _
    · rw [if_neg (Int.mul_ne_zero h0 hg), if_neg hg]
      exact sgF_mul ht z _
theorem sgF_mul0 {t : Int} (ht : t ≠ 0) (z : List Int) : sgF 0 (mulL t z) = cZ t 0 * sgF 0 z := by
  have := sgF_mul ht z 0
  rwa [Int.mul_zero] at this
theorem sgF_all : ∀ (z : List Int), sgF 0 z = 0 → ∀ x ∈ z, x = 0
  | [], _, x, hx => by simp at hx
  | y :: z, h, x, hx => by
    have h : sgF (cZ y 0) z = 0 := h
    by_cases hy : y = 0
    · subst hy
      rw [cZ_eq rfl] at h
      rcases List.mem_cons.1 hx with rfl | hx
      · rfl
      · exact sgF_all z h x hx
    · have h0 : cZ y 0 ≠ 0 := fun e => hy (cZ_zero.1 e)
      rw [sgF_zero h0] at h
      exact absurd h h0
theorem mulL_zeros {z : List Int} (h : ∀ x ∈ z, x = 0) (t : Int) : mulL t z = z := by
  unfold mulL
  conv => rhs; rw [← List.map_id z]
  exact List.map_congr_left fun x hx => by rw [h x hx, Int.mul_zero]; rfl
theorem upZ_neg (z : List Int) : upZ (mulL (-1) z) = upZ z := by
  have h := sgF_mul0 (t := -1) (by decide) z
  rw [show cZ (-1) 0 = -1 from rfl] at h
  unfold upZ
  rw [h, mulL_neg, mulL_neg, mulL_mulL]
  rcases Int.lt_trichotomy (sgF 0 z) 0 with hs | hs | hs
  · rw [if_neg (by omega), if_pos hs]
  · rw [if_neg (by omega), if_neg (by omega)]
    exact mulL_zeros (sgF_all z hs) _
  · rw [if_pos (by omega), if_neg (by omega)]
    exact mulL_one z

def canZ (z : List Int) : List Int := upZ (primZ z)
theorem canZ_len (z : List Int) : (canZ z).length = z.length := by rw [canZ, upZ_len, primZ_len]
theorem primZ_mul {t : Int} (ht : t ≠ 0) (z : List Int) : primZ (mulL t z) = mulL (cZ t 0) (primZ z) := by
  unfold primZ
  rw [gcdL_mul]
  simp only [mulL, List.map_map]
  refine List.map_congr_left fun x hx => ?_
  simp only [Function.comp]
  by_cases hg : gcdL z = 0
  · rw [hg]; simp
  obtain ⟨y, hy⟩ : ∃ y, x = (gcdL z : Int) * y := Int.ofNat_dvd_left.2 (gcdL_dvd hx)
  have hg0 : (gcdL z : Int) ≠ 0 := by omega
  rw [hy, Int.mul_ediv_cancel_left y hg0]
  have e : ((t.natAbs * gcdL z : Nat) : Int) = cZ t 0 * t * gcdL z := by
    rw [Int.natCast_mul]
    congr 1
    unfold cZ
    split
    · omega
    · first | omega | (rw [if_neg ht]; omega)
  have hs : cZ t 0 * cZ t 0 = 1 := by
    unfold cZ
    split
    · rfl
    · first | rfl | (rw [if_neg ht]; rfl)
  have e2 : t * ((gcdL z : Int) * y) = (cZ t 0 * t * gcdL z) * (cZ t 0 * y) := by
    have : (cZ t 0 * t * gcdL z) * (cZ t 0 * y) = (cZ t 0 * cZ t 0) * (t * ((gcdL z : Int) * y)) := by ac_rfl
    rw [this, hs, Int.one_mul]
  rw [e, e2]
  refine Int.mul_ediv_cancel_left _ ?_
  exact Int.mul_ne_zero (Int.mul_ne_zero (fun h => ht (cZ_zero.1 h)) ht) hg0
theorem canZ_mul {t : Int} (ht : t ≠ 0) (z : List Int) : canZ (mulL t z) = canZ z := by
  unfold canZ
  rw [primZ_mul ht]
  have : cZ t 0 = 1 ∨ cZ t 0 = -1 := by unfold cZ; split <;> (try split) <;> omega
  rcases this with e | e
  · rw [e, mulL_one]
  · rw [e, upZ_neg]
theorem combZ_mul {a b s t : Int} : ∀ {z p : List Int}, combZ (t * a) (s * b) (mulL s z) (mulL t p) = mulL (s * t) (combZ a b z p)
  | [], _ => by simp [combZ, mulL]
  | _ :: _, [] => by simp [combZ, mulL]
  | x :: z, y :: p => by
    have ih := combZ_mul (a := a) (b := b) (s := s) (t := t) (z := z) (p := p)
    show (t * a * (s * x) - s * b * (t * y)) :: combZ (t * a) (s * b) (mulL s z) (mulL t p) = (s * t * (a * x - b * y)) :: mulL (s * t) (combZ a b z p)
    rw [ih]
    congr 1
    rw [Int.mul_sub]
    congr 1 <;> ac_rfl
theorem combZ_fac {a b g : Int} : ∀ {z p : List Int}, combZ (g * a) (g * b) z p = mulL g (combZ a b z p)
  | [], _ => by simp [combZ, mulL]
  | _ :: _, [] => by simp [combZ, mulL]
  | x :: z, y :: p => by
    have ih := combZ_fac (a := a) (b := b) (g := g) (z := z) (p := p)
    show (g * a * x - g * b * y) :: combZ (g * a) (g * b) z p = (g * (a * x - b * y)) :: mulL g (combZ a b z p)
    rw [ih]
    congr 1
    rw [Int.mul_sub]
    congr 1 <;> ac_rfl

theorem join_clear {z p : List Int} {c : Nat} (h0 : vc z c ≠ 0) : canZ (combZ (vc p c) (vc z c) z p) = upZ (clearZ z p c) := by
  have hg : ((Int.gcd (vc z c) (vc p c) : Nat) : Int) ≠ 0 := by
    have := Int.gcd_pos_of_ne_zero_left (vc p c) h0
    omega
  have e1 : vc p c = ((Int.gcd (vc z c) (vc p c) : Nat) : Int) * (vc p c / ((Int.gcd (vc z c) (vc p c) : Nat) : Int)) := (Int.mul_ediv_cancel' (Int.gcd_dvd_right ..)).symm
  have e2 : vc z c = ((Int.gcd (vc z c) (vc p c) : Nat) : Int) * (vc z c / ((Int.gcd (vc z c) (vc p c) : Nat) : Int)) := (Int.mul_ediv_cancel' (Int.gcd_dvd_left ..)).symm
  rw [clearZ, if_neg h0]
  have e3 : combZ (vc p c) (vc z c) z p = mulL ((Int.gcd (vc z c) (vc p c) : Nat) : Int) (combZ (vc p c / ((Int.gcd (vc z c) (vc p c) : Nat) : Int)) (vc z c / ((Int.gcd (vc z c) (vc p c) : Nat) : Int)) z p) := by
    rw [← combZ_fac, ← e1, ← e2]
  rw [e3, canZ_mul hg]; rfl
theorem join_up {z p : List Int} {c : Nat} (h0 : vc z c ≠ 0) : canZ (combZ (vc (upZ p) c) (vc (upZ z) c) (upZ z) (upZ p)) = upZ (clearZ z p c) := by
  obtain ⟨s, hs, e⟩ := upZ_mul z
  obtain ⟨t, ht, e'⟩ := upZ_mul p
  rw [e, e', mulL_vc, mulL_vc, combZ_mul, canZ_mul (Int.mul_ne_zero (by omega) (by omega)), join_clear h0]
theorem up_vc0 {z : List Int} {c : Nat} : vc (upZ z) c = 0 ↔ vc z c = 0 := by
  obtain ⟨s, hs, e⟩ := upZ_mul z
  rw [e, mulL_vc]
  rcases hs with rfl | rfl <;> omega

def insR (T : List (List Int)) (Pv : List Nat) (v : List Int) : Nat → List Int
  | 0 => v
  | k + 1 => if vc (insR T Pv v k) (Pv.getD k 0) = 0 then insR T Pv v k else canZ (combZ (vc (T.getD k []) (Pv.getD k 0)) (vc (insR T Pv v k) (Pv.getD k 0)) (insR T Pv v k) (T.getD k []))
end Go.Proofs.Ytfjdfnlkobeehaa
end
