/- Part 40 of the way to the statement: the walk and what it needs. -/
import Derived.Test.YtfjdfnlkobeehaaKTuF37
section
set_option linter.unusedVariables false
set_option linter.unusedSimpArgs false
namespace Go.Proofs.Ytfjdfnlkobeehaa


def mulL (t : Int) (z : List Int) : List Int := z.map (t * ·)
theorem mulL_len (t : Int) (z : List Int) : (mulL t z).length = z.length := by simp [mulL]
theorem mulL_vc (t : Int) (z : List Int) (j : Nat) : vc (mulL t z) j = t * vc z j := by
  by_cases h : j < z.length
  · rw [vc_lt (by rw [mulL_len]; exact h), vc_lt h]; simp [mulL]
  · rw [vc_ge (by rw [mulL_len]; omega), vc_ge (by omega), Int.mul_zero]
def canZ (z : List Int) : List Int := upZ (primZ z)
theorem canZ_len (z : List Int) : (canZ z).length = z.length := by rw [canZ, upZ_len, primZ_len]
def insR (T : List (List Int)) (Pv : List Nat) (v : List Int) : Nat → List Int
  | 0 => v
  | k + 1 => if vc (insR T Pv v k) (Pv.getD k 0) = 0 then insR T Pv v k else canZ (combZ (vc (T.getD k []) (Pv.getD k 0)) (vc (insR T Pv v k) (Pv.getD k 0)) (insR T Pv v k) (T.getD k []))
end Go.Proofs.Ytfjdfnlkobeehaa
end
