/- Part 37 of the way to the statement: the walk and what it needs. -/
import Derived.Test.YtfjdfnlkobeehaaKDeF35
section
set_option maxRecDepth 100000
set_option linter.unusedVariables false
set_option linter.unusedSimpArgs false
namespace Go.Proofs.Ytfjdfnlkobeehaa.Ref

section
variable {b d : Bool} {xs ys : List Nat} {x y : Int} {k : Nat}
theorem ofW (p : Wn b xs x k) : PT Try.prog 103 [WX b xs] (isV (NZ x)) := by
  have := p.len
  have := p.hk
  have h := of_z (b := b) p.ok.lm (by omega)
  rwa [p.val] at h





end
end Go.Proofs.Ytfjdfnlkobeehaa.Ref

namespace Go.Proofs.Ytfjdfnlkobeehaa.Ref


end Go.Proofs.Ytfjdfnlkobeehaa.Ref
end
