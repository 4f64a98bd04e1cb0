/- The laws' first call. -/
import Derived.Test.YtfjdfnlkobeehaaLimbsB
set_option maxRecDepth 100000
set_option linter.unusedVariables false
set_option linter.unusedSimpArgs false
namespace Go.Proofs.Ytfjdfnlkobeehaa

theorem awake_V : V [0, 1] = 4294967296 := by simp [V]
theorem awake_V3 : V [3] = 3 := by simp [V]
-- left out: rafterlaw01.awake
theorem awake_q : D (4294967296 / 3) = [1431655765] := D_one (by decide) (by decide)
theorem awake_r : D (4294967296 % 3) = [1] := D_one (by decide) (by decide)

-- left out: rafterlaw01.awake
end Go.Proofs.Ytfjdfnlkobeehaa
