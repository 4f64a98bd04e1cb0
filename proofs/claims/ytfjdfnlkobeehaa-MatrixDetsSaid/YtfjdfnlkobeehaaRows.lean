/-
  No cell of these rows narrows 'for every input' (looked for: loops, veiled, ifaces, maps, wideKeys, modest, calm, conditions, laid).
  DERIVED. THE GIVEN ROWS OF THIS SEAT. 8 by the template 'for every input the law returns true; each argument reads behind the call as it read before'; 0 by the template 'total and deterministic' (their statements: YtfjdfnlkobeehaaTotals.lean).
  GIVEN WITH THE SEED: the statements are not yours to turn. If you find one false, say at which input.
  Laid BY PROGRAM, IN A SANDBOX (cutbox-rows.mjs): the forced cells as the released guide's own fill.sh prints them over the translation 758a098168b3b96f… (all of the seat's roots in one cut). By AI agents, Wed Nov 11 2026. No macro, syntax, notation, axiom, sorry.
-/
import Derived.Test.YtfjdfnlkobeehaaChecked
import GoSem.Claim
import GoSem.ClaimJoined
import GoSem.ClaimMapViews
import Derived.JoinedTies
import Derived.KernelRfl
namespace Go.Proofs.Ytfjdfnlkobeehaa
/- THE CELL 'sum', in the pinned program and in every row, IS THE sha256 OF THE DUMP (.gsa) THAT YtfjdfnlkobeehaaProg.lean LOADS. Nothing in Lean hashes anything: it is a label: what it is worth is what the hold of that sum in a sandbox is worth. -/
noncomputable def Try.pinned : Pinned := { name := "ytfjdfnlkobeehaa", sum := "758a098168b3b96f469a2c9aeba8618237eb3e046e718e146c187ae27cbe38de", checked := Try.checked }
namespace Rows
def none {H : Type} : Left H := { results := [], args := [] }

/-- 'rafterlaw06.MatrixSpace': WHATEVER THE INPUT: true; the input reads as it did. -/
def matrixSpaceSpec : ChangeSpec := { name := "matrixSpace", fn := fun _ => fun
  | [d1, d2, d3] => { results := [.lit (.bool true)], args := [d1, d2, d3] }
  | _ => none }
def matrixSpaceRow : OpenClaim := { program := "ytfjdfnlkobeehaa", sum := "758a098168b3b96f469a2c9aeba8618237eb3e046e718e146c187ae27cbe38de", func := "rafter/rafterlaw06.MatrixSpace", spec := "matrixSpace", unfollowed := true, recurses := true, apart := false }
def MatrixSpaceSaid : Prop := matrixSpaceRow.holds Try.pinned (OpenSpec.ofChange matrixSpaceSpec)

/-- ITS FALSE NEIGHBOUR: 'it returns false'. Refute it at one input. -/
def matrixSpaceWrong : ChangeSpec := { name := "matrixSpace", fn := fun _ => fun
  | [d1, d2, d3] => { results := [.lit (.bool false)], args := [d1, d2, d3] }
  | _ => none }
def MatrixSpaceWrongFalsely : Prop := matrixSpaceRow.holds Try.pinned (OpenSpec.ofChange matrixSpaceWrong)

/-- 'rafterlaw06.MatrixReduces': WHATEVER THE INPUT: true; the input reads as it did. -/
def matrixReducesSpec : ChangeSpec := { name := "matrixReduces", fn := fun _ => fun
  | [d1, d2] => { results := [.lit (.bool true)], args := [d1, d2] }
  | _ => none }
def matrixReducesRow : OpenClaim := { program := "ytfjdfnlkobeehaa", sum := "758a098168b3b96f469a2c9aeba8618237eb3e046e718e146c187ae27cbe38de", func := "rafter/rafterlaw06.MatrixReduces", spec := "matrixReduces", unfollowed := true, recurses := true, apart := false }
def MatrixReducesSaid : Prop := matrixReducesRow.holds Try.pinned (OpenSpec.ofChange matrixReducesSpec)

/-- ITS FALSE NEIGHBOUR: 'it returns false'. Refute it at one input. -/
def matrixReducesWrong : ChangeSpec := { name := "matrixReduces", fn := fun _ => fun
  | [d1, d2] => { results := [.lit (.bool false)], args := [d1, d2] }
  | _ => none }
def MatrixReducesWrongFalsely : Prop := matrixReducesRow.holds Try.pinned (OpenSpec.ofChange matrixReducesWrong)

/-- 'rafterlaw06.MatrixInsides': WHATEVER THE INPUT: true; the input reads as it did. -/
def matrixInsidesSpec : ChangeSpec := { name := "matrixInsides", fn := fun _ => fun
  | [d1, d2, d3] => { results := [.lit (.bool true)], args := [d1, d2, d3] }
  | _ => none }
def matrixInsidesRow : OpenClaim := { program := "ytfjdfnlkobeehaa", sum := "758a098168b3b96f469a2c9aeba8618237eb3e046e718e146c187ae27cbe38de", func := "rafter/rafterlaw06.MatrixInsides", spec := "matrixInsides", unfollowed := true, recurses := true, apart := false }
def MatrixInsidesSaid : Prop := matrixInsidesRow.holds Try.pinned (OpenSpec.ofChange matrixInsidesSpec)

/-- ITS FALSE NEIGHBOUR: 'it returns false'. Refute it at one input. -/
def matrixInsidesWrong : ChangeSpec := { name := "matrixInsides", fn := fun _ => fun
  | [d1, d2, d3] => { results := [.lit (.bool false)], args := [d1, d2, d3] }
  | _ => none }
def MatrixInsidesWrongFalsely : Prop := matrixInsidesRow.holds Try.pinned (OpenSpec.ofChange matrixInsidesWrong)

/-- 'rafterlaw06.MatrixDets': WHATEVER THE INPUT: true; the input reads as it did. -/
def matrixDetsSpec : ChangeSpec := { name := "matrixDets", fn := fun _ => fun
  | [d1, d2] => { results := [.lit (.bool true)], args := [d1, d2] }
  | _ => none }
def matrixDetsRow : OpenClaim := { program := "ytfjdfnlkobeehaa", sum := "758a098168b3b96f469a2c9aeba8618237eb3e046e718e146c187ae27cbe38de", func := "rafter/rafterlaw06.MatrixDets", spec := "matrixDets", unfollowed := true, recurses := true, apart := false }
def MatrixDetsSaid : Prop := matrixDetsRow.holds Try.pinned (OpenSpec.ofChange matrixDetsSpec)

/-- ITS FALSE NEIGHBOUR: 'it returns false'. Refute it at one input. -/
def matrixDetsWrong : ChangeSpec := { name := "matrixDets", fn := fun _ => fun
  | [d1, d2] => { results := [.lit (.bool false)], args := [d1, d2] }
  | _ => none }
def MatrixDetsWrongFalsely : Prop := matrixDetsRow.holds Try.pinned (OpenSpec.ofChange matrixDetsWrong)

/-- 'rafterlaw06.MatrixTurns': WHATEVER THE INPUT: true; the input reads as it did. -/
def matrixTurnsSpec : ChangeSpec := { name := "matrixTurns", fn := fun _ => fun
  | [d1, d2, d3] => { results := [.lit (.bool true)], args := [d1, d2, d3] }
  | _ => none }
def matrixTurnsRow : OpenClaim := { program := "ytfjdfnlkobeehaa", sum := "758a098168b3b96f469a2c9aeba8618237eb3e046e718e146c187ae27cbe38de", func := "rafter/rafterlaw06.MatrixTurns", spec := "matrixTurns", unfollowed := true, recurses := true, apart := false }
def MatrixTurnsSaid : Prop := matrixTurnsRow.holds Try.pinned (OpenSpec.ofChange matrixTurnsSpec)

/-- ITS FALSE NEIGHBOUR: 'it returns false'. Refute it at one input. -/
def matrixTurnsWrong : ChangeSpec := { name := "matrixTurns", fn := fun _ => fun
  | [d1, d2, d3] => { results := [.lit (.bool false)], args := [d1, d2, d3] }
  | _ => none }
def MatrixTurnsWrongFalsely : Prop := matrixTurnsRow.holds Try.pinned (OpenSpec.ofChange matrixTurnsWrong)

/-- 'rafterlaw06.MatrixForms': WHATEVER THE INPUT: true; the input reads as it did. -/
def matrixFormsSpec : ChangeSpec := { name := "matrixForms", fn := fun _ => fun
  | [d1, d2] => { results := [.lit (.bool true)], args := [d1, d2] }
  | _ => none }
def matrixFormsRow : OpenClaim := { program := "ytfjdfnlkobeehaa", sum := "758a098168b3b96f469a2c9aeba8618237eb3e046e718e146c187ae27cbe38de", func := "rafter/rafterlaw06.MatrixForms", spec := "matrixForms", unfollowed := true, recurses := true, apart := false }
def MatrixFormsSaid : Prop := matrixFormsRow.holds Try.pinned (OpenSpec.ofChange matrixFormsSpec)

/-- ITS FALSE NEIGHBOUR: 'it returns false'. Refute it at one input. -/
def matrixFormsWrong : ChangeSpec := { name := "matrixForms", fn := fun _ => fun
  | [d1, d2] => { results := [.lit (.bool false)], args := [d1, d2] }
  | _ => none }
def MatrixFormsWrongFalsely : Prop := matrixFormsRow.holds Try.pinned (OpenSpec.ofChange matrixFormsWrong)

/-- 'rafterlaw06.MatrixDual': WHATEVER THE INPUT: true; the input reads as it did. -/
def matrixDualSpec : ChangeSpec := { name := "matrixDual", fn := fun _ => fun
  | [d1, d2, d3] => { results := [.lit (.bool true)], args := [d1, d2, d3] }
  | _ => none }
def matrixDualRow : OpenClaim := { program := "ytfjdfnlkobeehaa", sum := "758a098168b3b96f469a2c9aeba8618237eb3e046e718e146c187ae27cbe38de", func := "rafter/rafterlaw06.MatrixDual", spec := "matrixDual", unfollowed := true, recurses := true, apart := false }
def MatrixDualSaid : Prop := matrixDualRow.holds Try.pinned (OpenSpec.ofChange matrixDualSpec)

/-- ITS FALSE NEIGHBOUR: 'it returns false'. Refute it at one input. -/
def matrixDualWrong : ChangeSpec := { name := "matrixDual", fn := fun _ => fun
  | [d1, d2, d3] => { results := [.lit (.bool false)], args := [d1, d2, d3] }
  | _ => none }
def MatrixDualWrongFalsely : Prop := matrixDualRow.holds Try.pinned (OpenSpec.ofChange matrixDualWrong)

/-- 'rafterlaw06.MatrixMakes': WHATEVER THE INPUT: true; the input reads as it did. -/
def matrixMakesSpec : ChangeSpec := { name := "matrixMakes", fn := fun _ => fun
  | [d1, d2, d3] => { results := [.lit (.bool true)], args := [d1, d2, d3] }
  | _ => none }
def matrixMakesRow : OpenClaim := { program := "ytfjdfnlkobeehaa", sum := "758a098168b3b96f469a2c9aeba8618237eb3e046e718e146c187ae27cbe38de", func := "rafter/rafterlaw06.MatrixMakes", spec := "matrixMakes", unfollowed := true, recurses := true, apart := false }
def MatrixMakesSaid : Prop := matrixMakesRow.holds Try.pinned (OpenSpec.ofChange matrixMakesSpec)

/-- ITS FALSE NEIGHBOUR: 'it returns false'. Refute it at one input. -/
def matrixMakesWrong : ChangeSpec := { name := "matrixMakes", fn := fun _ => fun
  | [d1, d2, d3] => { results := [.lit (.bool false)], args := [d1, d2, d3] }
  | _ => none }
def MatrixMakesWrongFalsely : Prop := matrixMakesRow.holds Try.pinned (OpenSpec.ofChange matrixMakesWrong)

/- THE SECOND FORM. 'bulk': how many values and letters a reading holds, each counted each time it is reached (what is shared counts as often as it is met; a slice's spare places count too). A statement '..UptoSaid' is the law's where the arguments, and the package variables that the reading takes, are together of bulk at most 1048576: NARROWER than '..Said'. Prove '..Said' where nothing that the law and all that it calls make is longer than what came in: it says more and counts as full. Else prove '..UptoSaid'. A law counts once. -/
mutual
def uptoBulk {H : Type} : DataW H → Nat
  | .lit (.string bytes) => bytes.length + 1
  | .lit _ => 1
  | .nil => 1
  | .ptr d => uptoBulk d + 1
  | .slice elems spare => uptoBulkAll elems + uptoBulkAll spare + 1
  | .agg parts => uptoBulkAll parts + 1
  | .iface _ d => uptoBulk d + 1
  | .map entries => uptoBulkEntries entries + 1
  | .held _ => 1
def uptoBulkAll {H : Type} : List (DataW H) → Nat
  | [] => 0
  | d :: r => uptoBulk d + uptoBulkAll r
def uptoBulkEntries {H : Type} : List (Lit × DataW H) → Nat
  | [] => 0
  | x :: r => uptoBulkEntry x + uptoBulkEntries r
def uptoBulkEntry {H : Type} : Lit × DataW H → Nat
  | (.string bytes, d) => bytes.length + uptoBulk d + 1
  | (_, d) => uptoBulk d + 1
 end
def uptoSmall : (H : Type) → List (DataW H) → Bool := fun _ ds => decide (uptoBulkAll ds ≤ 1048576)
def OpenSpec.upto (s : _root_.Go.ChangeSpec) : _root_.Go.OpenSpec := { _root_.Go.OpenSpec.ofChange s with cond := some uptoSmall }

/-- 'rafterlaw06.MatrixSpace', WHERE WHAT IT READS IS OF BULK AT MOST 1048576: true; the input reads as it did. -/
def matrixSpaceUptoRow : OpenClaim := { program := "ytfjdfnlkobeehaa", sum := "758a098168b3b96f469a2c9aeba8618237eb3e046e718e146c187ae27cbe38de", func := "rafter/rafterlaw06.MatrixSpace", spec := "matrixSpace", unfollowed := true, recurses := true, apart := false, narrowed := true }
def MatrixSpaceUptoSaid : Prop := matrixSpaceUptoRow.holds Try.pinned (OpenSpec.upto matrixSpaceSpec)

/-- 'rafterlaw06.MatrixReduces', WHERE WHAT IT READS IS OF BULK AT MOST 1048576: true; the input reads as it did. -/
def matrixReducesUptoRow : OpenClaim := { program := "ytfjdfnlkobeehaa", sum := "758a098168b3b96f469a2c9aeba8618237eb3e046e718e146c187ae27cbe38de", func := "rafter/rafterlaw06.MatrixReduces", spec := "matrixReduces", unfollowed := true, recurses := true, apart := false, narrowed := true }
def MatrixReducesUptoSaid : Prop := matrixReducesUptoRow.holds Try.pinned (OpenSpec.upto matrixReducesSpec)

/-- 'rafterlaw06.MatrixInsides', WHERE WHAT IT READS IS OF BULK AT MOST 1048576: true; the input reads as it did. -/
def matrixInsidesUptoRow : OpenClaim := { program := "ytfjdfnlkobeehaa", sum := "758a098168b3b96f469a2c9aeba8618237eb3e046e718e146c187ae27cbe38de", func := "rafter/rafterlaw06.MatrixInsides", spec := "matrixInsides", unfollowed := true, recurses := true, apart := false, narrowed := true }
def MatrixInsidesUptoSaid : Prop := matrixInsidesUptoRow.holds Try.pinned (OpenSpec.upto matrixInsidesSpec)

/-- 'rafterlaw06.MatrixDets', WHERE WHAT IT READS IS OF BULK AT MOST 1048576: true; the input reads as it did. -/
def matrixDetsUptoRow : OpenClaim := { program := "ytfjdfnlkobeehaa", sum := "758a098168b3b96f469a2c9aeba8618237eb3e046e718e146c187ae27cbe38de", func := "rafter/rafterlaw06.MatrixDets", spec := "matrixDets", unfollowed := true, recurses := true, apart := false, narrowed := true }
def MatrixDetsUptoSaid : Prop := matrixDetsUptoRow.holds Try.pinned (OpenSpec.upto matrixDetsSpec)

/-- 'rafterlaw06.MatrixTurns', WHERE WHAT IT READS IS OF BULK AT MOST 1048576: true; the input reads as it did. -/
def matrixTurnsUptoRow : OpenClaim := { program := "ytfjdfnlkobeehaa", sum := "758a098168b3b96f469a2c9aeba8618237eb3e046e718e146c187ae27cbe38de", func := "rafter/rafterlaw06.MatrixTurns", spec := "matrixTurns", unfollowed := true, recurses := true, apart := false, narrowed := true }
def MatrixTurnsUptoSaid : Prop := matrixTurnsUptoRow.holds Try.pinned (OpenSpec.upto matrixTurnsSpec)

/-- 'rafterlaw06.MatrixForms', WHERE WHAT IT READS IS OF BULK AT MOST 1048576: true; the input reads as it did. -/
def matrixFormsUptoRow : OpenClaim := { program := "ytfjdfnlkobeehaa", sum := "758a098168b3b96f469a2c9aeba8618237eb3e046e718e146c187ae27cbe38de", func := "rafter/rafterlaw06.MatrixForms", spec := "matrixForms", unfollowed := true, recurses := true, apart := false, narrowed := true }
def MatrixFormsUptoSaid : Prop := matrixFormsUptoRow.holds Try.pinned (OpenSpec.upto matrixFormsSpec)

/-- 'rafterlaw06.MatrixDual', WHERE WHAT IT READS IS OF BULK AT MOST 1048576: true; the input reads as it did. -/
def matrixDualUptoRow : OpenClaim := { program := "ytfjdfnlkobeehaa", sum := "758a098168b3b96f469a2c9aeba8618237eb3e046e718e146c187ae27cbe38de", func := "rafter/rafterlaw06.MatrixDual", spec := "matrixDual", unfollowed := true, recurses := true, apart := false, narrowed := true }
def MatrixDualUptoSaid : Prop := matrixDualUptoRow.holds Try.pinned (OpenSpec.upto matrixDualSpec)

/-- 'rafterlaw06.MatrixMakes', WHERE WHAT IT READS IS OF BULK AT MOST 1048576: true; the input reads as it did. -/
def matrixMakesUptoRow : OpenClaim := { program := "ytfjdfnlkobeehaa", sum := "758a098168b3b96f469a2c9aeba8618237eb3e046e718e146c187ae27cbe38de", func := "rafter/rafterlaw06.MatrixMakes", spec := "matrixMakes", unfollowed := true, recurses := true, apart := false, narrowed := true }
def MatrixMakesUptoSaid : Prop := matrixMakesUptoRow.holds Try.pinned (OpenSpec.upto matrixMakesSpec)

end Rows
end Go.Proofs.Ytfjdfnlkobeehaa
