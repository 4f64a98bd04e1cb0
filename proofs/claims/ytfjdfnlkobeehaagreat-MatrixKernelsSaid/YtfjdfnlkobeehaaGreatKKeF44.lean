/- Part 44 of the way to the statement: the walk and what it needs. -/
import Derived.Test.YtfjdfnlkobeehaaGreatKKeF36
section
set_option maxRecDepth 100000
set_option linter.unusedVariables false
set_option linter.unusedSimpArgs false
namespace Go.Proofs.YtfjdfnlkobeehaaGreat.Ref

section
variable {b d : Bool} {xs ys : List Nat} {x y : Int} {k : Nat}
theorem ofW (p : Wn b xs x k) : PT Tryz.prog 68 [WX b xs] (isV (NZ x)) := by
  have := p.len
  have := p.hk
  have h := of_z (b := b) p.ok.lm (by omega)
  rwa [p.val] at h





end
end Go.Proofs.YtfjdfnlkobeehaaGreat.Ref

namespace Go.Proofs.YtfjdfnlkobeehaaGreat.Ref


end Go.Proofs.YtfjdfnlkobeehaaGreat.Ref
end
