/-
  No cell of these rows narrows 'for every input' (looked for: loops, veiled, ifaces, maps, wideKeys, modest, calm, conditions, laid).
  DERIVED. THE GIVEN ROWS OF THIS SEAT. 11 by the template 'for every input the law returns true; each argument reads behind the call as it read before'; 0 by the template 'total and deterministic' (their statements: YtbbncddbdflmbaaTotals.lean).
  GIVEN WITH THE SEED: the statements are not yours to turn. If you find one false, say at which input.
  Laid BY PROGRAM, IN A SANDBOX (cutbox-rows.mjs): the forced cells as the released guide's own fill.sh prints them over the translation 4c4b23b6d46faaac… (all of the seat's roots in one cut). By AI agents, Wed Nov 11 2026. No macro, syntax, notation, axiom, sorry.
-/
import Derived.Test.YtbbncddbdflmbaaChecked
import GoSem.Claim
import GoSem.ClaimJoined
import GoSem.ClaimMapViews
import Derived.JoinedTies
import Derived.KernelRfl
namespace Go.Proofs.Ytbbncddbdflmbaa
/- THE CELL 'sum', in the pinned program and in every row, IS THE sha256 OF THE DUMP (.gsa) THAT YtbbncddbdflmbaaProg.lean LOADS. Nothing in Lean hashes anything: it is a label: what it is worth is what the hold of that sum in a sandbox is worth. -/
noncomputable def Try.pinned : Pinned := { name := "ytbbncddbdflmbaa", sum := "4c4b23b6d46faaaca909059bceefb3b7beab8fb839c4329cba187b6a60a5b143", checked := Try.checked }
namespace Rows
def none {H : Type} : Left H := { results := [], args := [] }

/-- 'rafterlaw01.LimbsTrims': WHATEVER THE INPUT: true; the input reads as it did. -/
def limbsTrimsSpec : ChangeSpec := { name := "limbsTrims", fn := fun _ => fun
  | [d1, d2] => { results := [.lit (.bool true)], args := [d1, d2] }
  | _ => none }
def limbsTrimsRow : OpenClaim := { program := "ytbbncddbdflmbaa", sum := "4c4b23b6d46faaaca909059bceefb3b7beab8fb839c4329cba187b6a60a5b143", func := "rafter/rafterlaw01.LimbsTrims", spec := "limbsTrims", apart := false }
def LimbsTrimsSaid : Prop := limbsTrimsRow.holds Try.pinned (OpenSpec.ofChange limbsTrimsSpec)

/-- ITS FALSE NEIGHBOUR: 'it returns false'. Refute it at one input. -/
def limbsTrimsWrong : ChangeSpec := { name := "limbsTrims", fn := fun _ => fun
  | [d1, d2] => { results := [.lit (.bool false)], args := [d1, d2] }
  | _ => none }
def LimbsTrimsWrongFalsely : Prop := limbsTrimsRow.holds Try.pinned (OpenSpec.ofChange limbsTrimsWrong)

/-- 'rafterlaw01.LimbsMoves': WHATEVER THE INPUT: true; the input reads as it did. -/
def limbsMovesSpec : ChangeSpec := { name := "limbsMoves", fn := fun _ => fun
  | [d1, d2] => { results := [.lit (.bool true)], args := [d1, d2] }
  | _ => none }
def limbsMovesRow : OpenClaim := { program := "ytbbncddbdflmbaa", sum := "4c4b23b6d46faaaca909059bceefb3b7beab8fb839c4329cba187b6a60a5b143", func := "rafter/rafterlaw01.LimbsMoves", spec := "limbsMoves", apart := false }
def LimbsMovesSaid : Prop := limbsMovesRow.holds Try.pinned (OpenSpec.ofChange limbsMovesSpec)

/-- ITS FALSE NEIGHBOUR: 'it returns false'. Refute it at one input. -/
def limbsMovesWrong : ChangeSpec := { name := "limbsMoves", fn := fun _ => fun
  | [d1, d2] => { results := [.lit (.bool false)], args := [d1, d2] }
  | _ => none }
def LimbsMovesWrongFalsely : Prop := limbsMovesRow.holds Try.pinned (OpenSpec.ofChange limbsMovesWrong)

/-- 'rafterlaw01.LimbsNumbers': WHATEVER THE INPUT: true; the input reads as it did. -/
def limbsNumbersSpec : ChangeSpec := { name := "limbsNumbers", fn := fun _ => fun
  | [d1, d2] => { results := [.lit (.bool true)], args := [d1, d2] }
  | _ => none }
def limbsNumbersRow : OpenClaim := { program := "ytbbncddbdflmbaa", sum := "4c4b23b6d46faaaca909059bceefb3b7beab8fb839c4329cba187b6a60a5b143", func := "rafter/rafterlaw01.LimbsNumbers", spec := "limbsNumbers", apart := false }
def LimbsNumbersSaid : Prop := limbsNumbersRow.holds Try.pinned (OpenSpec.ofChange limbsNumbersSpec)

/-- ITS FALSE NEIGHBOUR: 'it returns false'. Refute it at one input. -/
def limbsNumbersWrong : ChangeSpec := { name := "limbsNumbers", fn := fun _ => fun
  | [d1, d2] => { results := [.lit (.bool false)], args := [d1, d2] }
  | _ => none }
def LimbsNumbersWrongFalsely : Prop := limbsNumbersRow.holds Try.pinned (OpenSpec.ofChange limbsNumbersWrong)

/-- 'rafterlaw01.LimbsBack': WHATEVER THE INPUT: true; the input reads as it did. -/
def limbsBackSpec : ChangeSpec := { name := "limbsBack", fn := fun _ => fun
  | [d1, d2] => { results := [.lit (.bool true)], args := [d1, d2] }
  | _ => none }
def limbsBackRow : OpenClaim := { program := "ytbbncddbdflmbaa", sum := "4c4b23b6d46faaaca909059bceefb3b7beab8fb839c4329cba187b6a60a5b143", func := "rafter/rafterlaw01.LimbsBack", spec := "limbsBack", apart := false }
def LimbsBackSaid : Prop := limbsBackRow.holds Try.pinned (OpenSpec.ofChange limbsBackSpec)

/-- ITS FALSE NEIGHBOUR: 'it returns false'. Refute it at one input. -/
def limbsBackWrong : ChangeSpec := { name := "limbsBack", fn := fun _ => fun
  | [d1, d2] => { results := [.lit (.bool false)], args := [d1, d2] }
  | _ => none }
def LimbsBackWrongFalsely : Prop := limbsBackRow.holds Try.pinned (OpenSpec.ofChange limbsBackWrong)

/-- 'rafterlaw01.LimbsSums': WHATEVER THE INPUT: true; the input reads as it did. -/
def limbsSumsSpec : ChangeSpec := { name := "limbsSums", fn := fun _ => fun
  | [d1, d2] => { results := [.lit (.bool true)], args := [d1, d2] }
  | _ => none }
def limbsSumsRow : OpenClaim := { program := "ytbbncddbdflmbaa", sum := "4c4b23b6d46faaaca909059bceefb3b7beab8fb839c4329cba187b6a60a5b143", func := "rafter/rafterlaw01.LimbsSums", spec := "limbsSums", apart := false }
def LimbsSumsSaid : Prop := limbsSumsRow.holds Try.pinned (OpenSpec.ofChange limbsSumsSpec)

/-- ITS FALSE NEIGHBOUR: 'it returns false'. Refute it at one input. -/
def limbsSumsWrong : ChangeSpec := { name := "limbsSums", fn := fun _ => fun
  | [d1, d2] => { results := [.lit (.bool false)], args := [d1, d2] }
  | _ => none }
def LimbsSumsWrongFalsely : Prop := limbsSumsRow.holds Try.pinned (OpenSpec.ofChange limbsSumsWrong)

/-- 'rafterlaw01.LimbsShifts': WHATEVER THE INPUT: true; the input reads as it did. -/
def limbsShiftsSpec : ChangeSpec := { name := "limbsShifts", fn := fun _ => fun
  | [d1, d2] => { results := [.lit (.bool true)], args := [d1, d2] }
  | _ => none }
def limbsShiftsRow : OpenClaim := { program := "ytbbncddbdflmbaa", sum := "4c4b23b6d46faaaca909059bceefb3b7beab8fb839c4329cba187b6a60a5b143", func := "rafter/rafterlaw01.LimbsShifts", spec := "limbsShifts", apart := false }
def LimbsShiftsSaid : Prop := limbsShiftsRow.holds Try.pinned (OpenSpec.ofChange limbsShiftsSpec)

/-- ITS FALSE NEIGHBOUR: 'it returns false'. Refute it at one input. -/
def limbsShiftsWrong : ChangeSpec := { name := "limbsShifts", fn := fun _ => fun
  | [d1, d2] => { results := [.lit (.bool false)], args := [d1, d2] }
  | _ => none }
def LimbsShiftsWrongFalsely : Prop := limbsShiftsRow.holds Try.pinned (OpenSpec.ofChange limbsShiftsWrong)

/-- 'rafterlaw01.LimbsRest': WHATEVER THE INPUT: true; the input reads as it did. -/
def limbsRestSpec : ChangeSpec := { name := "limbsRest", fn := fun _ => fun
  | [d1, d2, d3] => { results := [.lit (.bool true)], args := [d1, d2, d3] }
  | _ => none }
def limbsRestRow : OpenClaim := { program := "ytbbncddbdflmbaa", sum := "4c4b23b6d46faaaca909059bceefb3b7beab8fb839c4329cba187b6a60a5b143", func := "rafter/rafterlaw01.LimbsRest", spec := "limbsRest", apart := false }
def LimbsRestSaid : Prop := limbsRestRow.holds Try.pinned (OpenSpec.ofChange limbsRestSpec)

/-- ITS FALSE NEIGHBOUR: 'it returns false'. Refute it at one input. -/
def limbsRestWrong : ChangeSpec := { name := "limbsRest", fn := fun _ => fun
  | [d1, d2, d3] => { results := [.lit (.bool false)], args := [d1, d2, d3] }
  | _ => none }
def LimbsRestWrongFalsely : Prop := limbsRestRow.holds Try.pinned (OpenSpec.ofChange limbsRestWrong)

/-- 'rafterlaw01.LimbsOrder': WHATEVER THE INPUT: true; the input reads as it did. -/
def limbsOrderSpec : ChangeSpec := { name := "limbsOrder", fn := fun _ => fun
  | [d1, d2, d3] => { results := [.lit (.bool true)], args := [d1, d2, d3] }
  | _ => none }
def limbsOrderRow : OpenClaim := { program := "ytbbncddbdflmbaa", sum := "4c4b23b6d46faaaca909059bceefb3b7beab8fb839c4329cba187b6a60a5b143", func := "rafter/rafterlaw01.LimbsOrder", spec := "limbsOrder", apart := false }
def LimbsOrderSaid : Prop := limbsOrderRow.holds Try.pinned (OpenSpec.ofChange limbsOrderSpec)

/-- ITS FALSE NEIGHBOUR: 'it returns false'. Refute it at one input. -/
def limbsOrderWrong : ChangeSpec := { name := "limbsOrder", fn := fun _ => fun
  | [d1, d2, d3] => { results := [.lit (.bool false)], args := [d1, d2, d3] }
  | _ => none }
def LimbsOrderWrongFalsely : Prop := limbsOrderRow.holds Try.pinned (OpenSpec.ofChange limbsOrderWrong)

/-- 'rafterlaw01.LimbsRing': WHATEVER THE INPUT: true; the input reads as it did. -/
def limbsRingSpec : ChangeSpec := { name := "limbsRing", fn := fun _ => fun
  | [d1, d2, d3] => { results := [.lit (.bool true)], args := [d1, d2, d3] }
  | _ => none }
def limbsRingRow : OpenClaim := { program := "ytbbncddbdflmbaa", sum := "4c4b23b6d46faaaca909059bceefb3b7beab8fb839c4329cba187b6a60a5b143", func := "rafter/rafterlaw01.LimbsRing", spec := "limbsRing", apart := false }
def LimbsRingSaid : Prop := limbsRingRow.holds Try.pinned (OpenSpec.ofChange limbsRingSpec)

/-- ITS FALSE NEIGHBOUR: 'it returns false'. Refute it at one input. -/
def limbsRingWrong : ChangeSpec := { name := "limbsRing", fn := fun _ => fun
  | [d1, d2, d3] => { results := [.lit (.bool false)], args := [d1, d2, d3] }
  | _ => none }
def LimbsRingWrongFalsely : Prop := limbsRingRow.holds Try.pinned (OpenSpec.ofChange limbsRingWrong)

/-- 'rafterlaw01.LimbsDivisors': WHATEVER THE INPUT: true; the input reads as it did. -/
def limbsDivisorsSpec : ChangeSpec := { name := "limbsDivisors", fn := fun _ => fun
  | [d1, d2, d3] => { results := [.lit (.bool true)], args := [d1, d2, d3] }
  | _ => none }
def limbsDivisorsRow : OpenClaim := { program := "ytbbncddbdflmbaa", sum := "4c4b23b6d46faaaca909059bceefb3b7beab8fb839c4329cba187b6a60a5b143", func := "rafter/rafterlaw01.LimbsDivisors", spec := "limbsDivisors", apart := false }
def LimbsDivisorsSaid : Prop := limbsDivisorsRow.holds Try.pinned (OpenSpec.ofChange limbsDivisorsSpec)

/-- ITS FALSE NEIGHBOUR: 'it returns false'. Refute it at one input. -/
def limbsDivisorsWrong : ChangeSpec := { name := "limbsDivisors", fn := fun _ => fun
  | [d1, d2, d3] => { results := [.lit (.bool false)], args := [d1, d2, d3] }
  | _ => none }
def LimbsDivisorsWrongFalsely : Prop := limbsDivisorsRow.holds Try.pinned (OpenSpec.ofChange limbsDivisorsWrong)

/-- 'rafterlaw01.LimbsTops': WHATEVER THE INPUT: true; the input reads as it did. -/
def limbsTopsSpec : ChangeSpec := { name := "limbsTops", fn := fun _ => fun
  | [d1, d2, d3] => { results := [.lit (.bool true)], args := [d1, d2, d3] }
  | _ => none }
def limbsTopsRow : OpenClaim := { program := "ytbbncddbdflmbaa", sum := "4c4b23b6d46faaaca909059bceefb3b7beab8fb839c4329cba187b6a60a5b143", func := "rafter/rafterlaw01.LimbsTops", spec := "limbsTops", apart := false }
def LimbsTopsSaid : Prop := limbsTopsRow.holds Try.pinned (OpenSpec.ofChange limbsTopsSpec)

/-- ITS FALSE NEIGHBOUR: 'it returns false'. Refute it at one input. -/
def limbsTopsWrong : ChangeSpec := { name := "limbsTops", fn := fun _ => fun
  | [d1, d2, d3] => { results := [.lit (.bool false)], args := [d1, d2, d3] }
  | _ => none }
def LimbsTopsWrongFalsely : Prop := limbsTopsRow.holds Try.pinned (OpenSpec.ofChange limbsTopsWrong)

/- THE SECOND FORM. 'bulk': how many values and letters a reading holds, each counted each time it is reached (what is shared counts as often as it is met; a slice's spare places count too). A statement '..UptoSaid' is the law's where the arguments, and the package variables that the reading takes, are together of bulk at most 1048576: NARROWER than '..Said'. Prove '..Said' where nothing that the law and all that it calls make is longer than what came in: it says more and counts as full. Else prove '..UptoSaid'. A law counts once. -/
mutual
def uptoBulk {H : Type} : DataW H → Nat
  | .lit (.string bytes) => bytes.length + 1
  | .lit _ => 1
  | .nil => 1
  | .ptr d => uptoBulk d + 1
  | .slice elems spare => uptoBulkAll elems + uptoBulkAll spare + 1
  | .agg parts => uptoBulkAll parts + 1
  | .iface _ d => uptoBulk d + 1
  | .map entries => uptoBulkEntries entries + 1
  | .held _ => 1
def uptoBulkAll {H : Type} : List (DataW H) → Nat
  | [] => 0
  | d :: r => uptoBulk d + uptoBulkAll r
def uptoBulkEntries {H : Type} : List (Lit × DataW H) → Nat
  | [] => 0
  | x :: r => uptoBulkEntry x + uptoBulkEntries r
def uptoBulkEntry {H : Type} : Lit × DataW H → Nat
  | (.string bytes, d) => bytes.length + uptoBulk d + 1
  | (_, d) => uptoBulk d + 1
 end
def uptoSmall : (H : Type) → List (DataW H) → Bool := fun _ ds => decide (uptoBulkAll ds ≤ 1048576)
def OpenSpec.upto (s : _root_.Go.ChangeSpec) : _root_.Go.OpenSpec := { _root_.Go.OpenSpec.ofChange s with cond := some uptoSmall }

/-- 'rafterlaw01.LimbsTrims', WHERE WHAT IT READS IS OF BULK AT MOST 1048576: true; the input reads as it did. -/
def limbsTrimsUptoRow : OpenClaim := { program := "ytbbncddbdflmbaa", sum := "4c4b23b6d46faaaca909059bceefb3b7beab8fb839c4329cba187b6a60a5b143", func := "rafter/rafterlaw01.LimbsTrims", spec := "limbsTrims", apart := false, narrowed := true }
def LimbsTrimsUptoSaid : Prop := limbsTrimsUptoRow.holds Try.pinned (OpenSpec.upto limbsTrimsSpec)

/-- 'rafterlaw01.LimbsMoves', WHERE WHAT IT READS IS OF BULK AT MOST 1048576: true; the input reads as it did. -/
def limbsMovesUptoRow : OpenClaim := { program := "ytbbncddbdflmbaa", sum := "4c4b23b6d46faaaca909059bceefb3b7beab8fb839c4329cba187b6a60a5b143", func := "rafter/rafterlaw01.LimbsMoves", spec := "limbsMoves", apart := false, narrowed := true }
def LimbsMovesUptoSaid : Prop := limbsMovesUptoRow.holds Try.pinned (OpenSpec.upto limbsMovesSpec)

/-- 'rafterlaw01.LimbsNumbers', WHERE WHAT IT READS IS OF BULK AT MOST 1048576: true; the input reads as it did. -/
def limbsNumbersUptoRow : OpenClaim := { program := "ytbbncddbdflmbaa", sum := "4c4b23b6d46faaaca909059bceefb3b7beab8fb839c4329cba187b6a60a5b143", func := "rafter/rafterlaw01.LimbsNumbers", spec := "limbsNumbers", apart := false, narrowed := true }
def LimbsNumbersUptoSaid : Prop := limbsNumbersUptoRow.holds Try.pinned (OpenSpec.upto limbsNumbersSpec)

/-- 'rafterlaw01.LimbsBack', WHERE WHAT IT READS IS OF BULK AT MOST 1048576: true; the input reads as it did. -/
def limbsBackUptoRow : OpenClaim := { program := "ytbbncddbdflmbaa", sum := "4c4b23b6d46faaaca909059bceefb3b7beab8fb839c4329cba187b6a60a5b143", func := "rafter/rafterlaw01.LimbsBack", spec := "limbsBack", apart := false, narrowed := true }
def LimbsBackUptoSaid : Prop := limbsBackUptoRow.holds Try.pinned (OpenSpec.upto limbsBackSpec)

/-- 'rafterlaw01.LimbsSums', WHERE WHAT IT READS IS OF BULK AT MOST 1048576: true; the input reads as it did. -/
def limbsSumsUptoRow : OpenClaim := { program := "ytbbncddbdflmbaa", sum := "4c4b23b6d46faaaca909059bceefb3b7beab8fb839c4329cba187b6a60a5b143", func := "rafter/rafterlaw01.LimbsSums", spec := "limbsSums", apart := false, narrowed := true }
def LimbsSumsUptoSaid : Prop := limbsSumsUptoRow.holds Try.pinned (OpenSpec.upto limbsSumsSpec)

/-- 'rafterlaw01.LimbsShifts', WHERE WHAT IT READS IS OF BULK AT MOST 1048576: true; the input reads as it did. -/
def limbsShiftsUptoRow : OpenClaim := { program := "ytbbncddbdflmbaa", sum := "4c4b23b6d46faaaca909059bceefb3b7beab8fb839c4329cba187b6a60a5b143", func := "rafter/rafterlaw01.LimbsShifts", spec := "limbsShifts", apart := false, narrowed := true }
def LimbsShiftsUptoSaid : Prop := limbsShiftsUptoRow.holds Try.pinned (OpenSpec.upto limbsShiftsSpec)

/-- 'rafterlaw01.LimbsRest', WHERE WHAT IT READS IS OF BULK AT MOST 1048576: true; the input reads as it did. -/
def limbsRestUptoRow : OpenClaim := { program := "ytbbncddbdflmbaa", sum := "4c4b23b6d46faaaca909059bceefb3b7beab8fb839c4329cba187b6a60a5b143", func := "rafter/rafterlaw01.LimbsRest", spec := "limbsRest", apart := false, narrowed := true }
def LimbsRestUptoSaid : Prop := limbsRestUptoRow.holds Try.pinned (OpenSpec.upto limbsRestSpec)

/-- 'rafterlaw01.LimbsOrder', WHERE WHAT IT READS IS OF BULK AT MOST 1048576: true; the input reads as it did. -/
def limbsOrderUptoRow : OpenClaim := { program := "ytbbncddbdflmbaa", sum := "4c4b23b6d46faaaca909059bceefb3b7beab8fb839c4329cba187b6a60a5b143", func := "rafter/rafterlaw01.LimbsOrder", spec := "limbsOrder", apart := false, narrowed := true }
def LimbsOrderUptoSaid : Prop := limbsOrderUptoRow.holds Try.pinned (OpenSpec.upto limbsOrderSpec)

/-- 'rafterlaw01.LimbsRing', WHERE WHAT IT READS IS OF BULK AT MOST 1048576: true; the input reads as it did. -/
def limbsRingUptoRow : OpenClaim := { program := "ytbbncddbdflmbaa", sum := "4c4b23b6d46faaaca909059bceefb3b7beab8fb839c4329cba187b6a60a5b143", func := "rafter/rafterlaw01.LimbsRing", spec := "limbsRing", apart := false, narrowed := true }
def LimbsRingUptoSaid : Prop := limbsRingUptoRow.holds Try.pinned (OpenSpec.upto limbsRingSpec)

/-- 'rafterlaw01.LimbsDivisors', WHERE WHAT IT READS IS OF BULK AT MOST 1048576: true; the input reads as it did. -/
def limbsDivisorsUptoRow : OpenClaim := { program := "ytbbncddbdflmbaa", sum := "4c4b23b6d46faaaca909059bceefb3b7beab8fb839c4329cba187b6a60a5b143", func := "rafter/rafterlaw01.LimbsDivisors", spec := "limbsDivisors", apart := false, narrowed := true }
def LimbsDivisorsUptoSaid : Prop := limbsDivisorsUptoRow.holds Try.pinned (OpenSpec.upto limbsDivisorsSpec)

/-- 'rafterlaw01.LimbsTops', WHERE WHAT IT READS IS OF BULK AT MOST 1048576: true; the input reads as it did. -/
def limbsTopsUptoRow : OpenClaim := { program := "ytbbncddbdflmbaa", sum := "4c4b23b6d46faaaca909059bceefb3b7beab8fb839c4329cba187b6a60a5b143", func := "rafter/rafterlaw01.LimbsTops", spec := "limbsTops", apart := false, narrowed := true }
def LimbsTopsUptoSaid : Prop := limbsTopsUptoRow.holds Try.pinned (OpenSpec.upto limbsTopsSpec)

end Rows
end Go.Proofs.Ytbbncddbdflmbaa
