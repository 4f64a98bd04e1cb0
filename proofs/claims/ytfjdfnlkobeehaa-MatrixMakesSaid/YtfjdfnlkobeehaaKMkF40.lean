/- Part 40 of the way to the statement: the walk and what it needs. -/
import Derived.Test.YtfjdfnlkobeehaaKMkF36
section
set_option linter.unusedVariables false
set_option linter.unusedSimpArgs false
namespace Go.Proofs.Ytfjdfnlkobeehaa


def canZ (z : List Int) : List Int := upZ (primZ z)
theorem canZ_len (z : List Int) : (canZ z).length = z.length := by rw [canZ, upZ_len, primZ_len]
def insR (T : List (List Int)) (Pv : List Nat) (v : List Int) : Nat → List Int
  | 0 => v
  | k + 1 => if vc (insR T Pv v k) (Pv.getD k 0) = 0 then insR T Pv v k else canZ (combZ (vc (T.getD k []) (Pv.getD k 0)) (vc (insR T Pv v k) (Pv.getD k 0)) (insR T Pv v k) (T.getD k []))
end Go.Proofs.Ytfjdfnlkobeehaa
end
