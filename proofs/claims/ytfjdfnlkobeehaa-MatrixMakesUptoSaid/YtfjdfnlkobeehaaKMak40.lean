/- Part 40 of the way to the statement: the walk and what it needs. -/
import Derived.Test.YtfjdfnlkobeehaaKMak36
section
set_option linter.unusedVariables false
set_option linter.unusedSimpArgs false
namespace Go.Proofs.Ytfjdfnlkobeehaa


def mulL (t : Int) (z : List Int) : List Int := z.map (t * ·)
theorem mulL_one (z : List Int) : mulL 1 z = z := by simp [mulL]
theorem mulL_neg (z : List Int) : z.map (- ·) = mulL (-1) z := by simp [mulL]
theorem mulL_len (t : Int) (z : List Int) : (mulL t z).length = z.length := by simp [mulL]
theorem mulL_vc (t : Int) (z : List Int) (j : Nat) : vc (mulL t z) j = t * vc z j := by
  by_cases h : j < z.length
  · rw [vc_lt (by rw [mulL_len]; exact h), vc_lt h]; simp [mulL]
  · rw [vc_ge (by rw [mulL_len]; omega), vc_ge (by omega), Int.mul_zero]
theorem upZ_mul (z : List Int) : ∃ s : Int, (s = 1 ∨ s = -1) ∧ upZ z = mulL s z := by
  rcases upZ_cases z with e | e
  · exact ⟨1, .inl rfl, by rw [e, mulL_one]⟩
  · exact ⟨-1, .inr rfl, by rw [e, mulL_neg]⟩
def canZ (z : List Int) : List Int := upZ (primZ z)
theorem canZ_len (z : List Int) : (canZ z).length = z.length := by rw [canZ, upZ_len, primZ_len]
def Ln (u v : List Int) : Prop := ∃ s t : Int, s ≠ 0 ∧ t ≠ 0 ∧ ∀ j, s * vc u j = t * vc v j
theorem Ln.refl (u : List Int) : Ln u u := ⟨1, 1, by decide, by decide, fun _ => rfl⟩
theorem Ln.symm {u v : List Int} (h : Ln u v) : Ln v u := by
  obtain ⟨s, t, h1, h2, h3⟩ := h
  exact ⟨t, s, h2, h1, fun j => (h3 j).symm⟩
theorem Ln.trans {u v w : List Int} (h : Ln u v) (h' : Ln v w) : Ln u w := by
  obtain ⟨s, t, h1, h2, h3⟩ := h
  obtain ⟨s', t', h1', h2', h3'⟩ := h'
  refine ⟨s' * s, t * t', Int.mul_ne_zero h1' h1, Int.mul_ne_zero h2 h2', fun j => ?_⟩
  rw [Int.mul_assoc, h3, ← Int.mul_assoc, Int.mul_comm s' t, Int.mul_assoc, h3', ← Int.mul_assoc]
theorem Ln.zero {u v : List Int} (h : Ln u v) (j : Nat) : vc u j = 0 ↔ vc v j = 0 := by
  obtain ⟨s, t, h1, h2, h3⟩ := h
  have := h3 j
  constructor
  · intro e; rw [e, Int.mul_zero] at this
    exact (Int.mul_eq_zero.1 this.symm).resolve_left h2
  · intro e; rw [e, Int.mul_zero] at this
    exact (Int.mul_eq_zero.1 this).resolve_left h1
theorem Ln.up (z : List Int) : Ln (upZ z) z := by
  obtain ⟨s, hs, e⟩ := upZ_mul z
  exact ⟨1, s, by decide, by omega, fun j => by rw [e, mulL_vc, Int.one_mul]⟩
theorem Ln.comb {u v p : List Int} {c : Nat} (h : Ln u v) (hu : u.length = p.length) (hv : v.length = p.length) : Ln (combZ (vc p c) (vc u c) u p) (combZ (vc p c) (vc v c) v p) := by
  obtain ⟨s, t, h1, h2, h3⟩ := h
  refine ⟨s, t, h1, h2, fun j => ?_⟩
  rw [combZ_vc hu, combZ_vc hv, Int.mul_sub, Int.mul_sub]
  have e1 := h3 j
  have e2 := h3 c
  congr 1
  · rw [Int.mul_left_comm, e1, Int.mul_left_comm]
  · rw [← Int.mul_assoc, e2, Int.mul_assoc]
def insR (T : List (List Int)) (Pv : List Nat) (v : List Int) : Nat → List Int
  | 0 => v
  | k + 1 => if vc (insR T Pv v k) (Pv.getD k 0) = 0 then insR T Pv v k else canZ (combZ (vc (T.getD k []) (Pv.getD k 0)) (vc (insR T Pv v k) (Pv.getD k 0)) (insR T Pv v k) (T.getD k []))
end Go.Proofs.Ytfjdfnlkobeehaa
end
