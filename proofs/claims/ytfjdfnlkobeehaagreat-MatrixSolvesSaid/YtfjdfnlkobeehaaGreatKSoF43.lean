/- Part 43 of the way to the statement: the walk and what it needs. -/
import Derived.Test.YtfjdfnlkobeehaaGreatKSoF39
section
set_option maxRecDepth 100000
set_option linter.unusedVariables false
set_option linter.unusedSimpArgs false
namespace Go.Proofs.YtfjdfnlkobeehaaGreat

end Go.Proofs.YtfjdfnlkobeehaaGreat
end

section
set_option maxRecDepth 100000
set_option linter.unusedVariables false
set_option linter.unusedSimpArgs false
namespace Go.Proofs.YtfjdfnlkobeehaaGreat

end Go.Proofs.YtfjdfnlkobeehaaGreat
end
