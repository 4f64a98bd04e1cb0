/- The document's answers on whole numbers: layer 2. -/
import Derived.Test.YtgebemjmckgomaaRefF
set_option maxRecDepth 100000
set_option linter.unusedVariables false
set_option linter.unusedSimpArgs false
namespace Go.Proofs.Ytgebemjmckgomaa.Ref

section
variable {b d : Bool} {xs ys : List Nat} {x y : Int} {k : Nat}
theorem ofW (p : Wn b xs x k) : PT Try.prog 67 [WX b xs] (isV (NZ x)) := by
  have := p.len
  have := p.hk
  have h := of_z (b := b) p.ok.lm (by omega)
  rwa [p.val] at h
-- left out: rafterref02.Trim
-- left out: rafterref02.Sign
-- left out: rafterref02.Limbs
-- left out: rafterref02.Cmp
-- left out: rafterref02.Neg
theorem okAdd (p : Wn b xs x k) (q : Wn d ys y k) (hk : k ≤ 100000) : Ok (D (x.natAbs + y.natAbs)) :=
  okZ (k := k + 1) (z := ((x.natAbs + y.natAbs : Nat) : Int)) (lt_add p.z q.z) (by omega)
-- left out: rafterref02.Add
-- left out: rafterref02.Sub
-- left out: rafterref02.Mul
-- left out: rafterref02.Gcd
-- left out: rafterref02.DivMod
-- left out: rafterref02.DivMod
end
end Go.Proofs.Ytgebemjmckgomaa.Ref

namespace Go.Proofs.Ytgebemjmckgomaa.Ref

-- left out: rafterref02.Int
end Go.Proofs.Ytgebemjmckgomaa.Ref
