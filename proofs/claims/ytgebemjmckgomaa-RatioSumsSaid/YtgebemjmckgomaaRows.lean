/-
  No cell of these rows narrows 'for every input' (looked for: loops, veiled, ifaces, maps, wideKeys, modest, calm, conditions, laid).
  DERIVED. THE GIVEN ROWS OF THIS SEAT. 9 by the template 'for every input the law returns true; each argument reads behind the call as it read before'; 0 by the template 'total and deterministic' (their statements: YtgebemjmckgomaaTotals.lean).
  GIVEN WITH THE SEED: the statements are not yours to turn. If you find one false, say at which input.
  Laid BY PROGRAM, IN A SANDBOX (cutbox-rows.mjs): the forced cells as the released guide's own fill.sh prints them over the translation 565e01bbf430bb22… (all of the seat's roots in one cut). By AI agents, Wed Nov 11 2026. No macro, syntax, notation, axiom, sorry.
-/
import Derived.Test.YtgebemjmckgomaaChecked
import GoSem.Claim
import GoSem.ClaimJoined
import GoSem.ClaimMapViews
import Derived.JoinedTies
import Derived.KernelRfl
namespace Go.Proofs.Ytgebemjmckgomaa
/- THE CELL 'sum', in the pinned program and in every row, IS THE sha256 OF THE DUMP (.gsa) THAT YtgebemjmckgomaaProg.lean LOADS. Nothing in Lean hashes anything: it is a label: what it is worth is what the hold of that sum in a sandbox is worth. -/
noncomputable def Try.pinned : Pinned := { name := "ytgebemjmckgomaa", sum := "565e01bbf430bb22dbf405f378ee995a66e29ca4e3a1670e09a5cce0b09dc474", checked := Try.checked }
namespace Rows
def none {H : Type} : Left H := { results := [], args := [] }

/-- 'rafterlaw03.RatioMakes': WHATEVER THE INPUT: true; the input reads as it did. -/
def ratioMakesSpec : ChangeSpec := { name := "ratioMakes", fn := fun _ => fun
  | [d1, d2] => { results := [.lit (.bool true)], args := [d1, d2] }
  | _ => none }
def ratioMakesRow : OpenClaim := { program := "ytgebemjmckgomaa", sum := "565e01bbf430bb22dbf405f378ee995a66e29ca4e3a1670e09a5cce0b09dc474", func := "rafter/rafterlaw03.RatioMakes", spec := "ratioMakes", apart := false }
def RatioMakesSaid : Prop := ratioMakesRow.holds Try.pinned (OpenSpec.ofChange ratioMakesSpec)

/-- ITS FALSE NEIGHBOUR: 'it returns false'. Refute it at one input. -/
def ratioMakesWrong : ChangeSpec := { name := "ratioMakes", fn := fun _ => fun
  | [d1, d2] => { results := [.lit (.bool false)], args := [d1, d2] }
  | _ => none }
def RatioMakesWrongFalsely : Prop := ratioMakesRow.holds Try.pinned (OpenSpec.ofChange ratioMakesWrong)

/-- 'rafterlaw03.RatioLowest': WHATEVER THE INPUT: true; the input reads as it did. -/
def ratioLowestSpec : ChangeSpec := { name := "ratioLowest", fn := fun _ => fun
  | [d1, d2, d3] => { results := [.lit (.bool true)], args := [d1, d2, d3] }
  | _ => none }
def ratioLowestRow : OpenClaim := { program := "ytgebemjmckgomaa", sum := "565e01bbf430bb22dbf405f378ee995a66e29ca4e3a1670e09a5cce0b09dc474", func := "rafter/rafterlaw03.RatioLowest", spec := "ratioLowest", apart := false }
def RatioLowestSaid : Prop := ratioLowestRow.holds Try.pinned (OpenSpec.ofChange ratioLowestSpec)

/-- ITS FALSE NEIGHBOUR: 'it returns false'. Refute it at one input. -/
def ratioLowestWrong : ChangeSpec := { name := "ratioLowest", fn := fun _ => fun
  | [d1, d2, d3] => { results := [.lit (.bool false)], args := [d1, d2, d3] }
  | _ => none }
def RatioLowestWrongFalsely : Prop := ratioLowestRow.holds Try.pinned (OpenSpec.ofChange ratioLowestWrong)

/-- 'rafterlaw03.RatioField': WHATEVER THE INPUT: true; the input reads as it did. -/
def ratioFieldSpec : ChangeSpec := { name := "ratioField", fn := fun _ => fun
  | [d1, d2, d3] => { results := [.lit (.bool true)], args := [d1, d2, d3] }
  | _ => none }
def ratioFieldRow : OpenClaim := { program := "ytgebemjmckgomaa", sum := "565e01bbf430bb22dbf405f378ee995a66e29ca4e3a1670e09a5cce0b09dc474", func := "rafter/rafterlaw03.RatioField", spec := "ratioField", apart := false }
def RatioFieldSaid : Prop := ratioFieldRow.holds Try.pinned (OpenSpec.ofChange ratioFieldSpec)

/-- ITS FALSE NEIGHBOUR: 'it returns false'. Refute it at one input. -/
def ratioFieldWrong : ChangeSpec := { name := "ratioField", fn := fun _ => fun
  | [d1, d2, d3] => { results := [.lit (.bool false)], args := [d1, d2, d3] }
  | _ => none }
def RatioFieldWrongFalsely : Prop := ratioFieldRow.holds Try.pinned (OpenSpec.ofChange ratioFieldWrong)

/-- 'rafterlaw03.RatioReads': WHATEVER THE INPUT: true; the input reads as it did. -/
def ratioReadsSpec : ChangeSpec := { name := "ratioReads", fn := fun _ => fun
  | [d] => { results := [.lit (.bool true)], args := [d] }
  | _ => none }
def ratioReadsRow : OpenClaim := { program := "ytgebemjmckgomaa", sum := "565e01bbf430bb22dbf405f378ee995a66e29ca4e3a1670e09a5cce0b09dc474", func := "rafter/rafterlaw03.RatioReads", spec := "ratioReads", apart := false }
def RatioReadsSaid : Prop := ratioReadsRow.holds Try.pinned (OpenSpec.ofChange ratioReadsSpec)

/-- ITS FALSE NEIGHBOUR: 'it returns false'. Refute it at one input. -/
def ratioReadsWrong : ChangeSpec := { name := "ratioReads", fn := fun _ => fun
  | [d] => { results := [.lit (.bool false)], args := [d] }
  | _ => none }
def RatioReadsWrongFalsely : Prop := ratioReadsRow.holds Try.pinned (OpenSpec.ofChange ratioReadsWrong)

/-- 'rafterlaw03.RatioOrder': WHATEVER THE INPUT: true; the input reads as it did. -/
def ratioOrderSpec : ChangeSpec := { name := "ratioOrder", fn := fun _ => fun
  | [d1, d2, d3] => { results := [.lit (.bool true)], args := [d1, d2, d3] }
  | _ => none }
def ratioOrderRow : OpenClaim := { program := "ytgebemjmckgomaa", sum := "565e01bbf430bb22dbf405f378ee995a66e29ca4e3a1670e09a5cce0b09dc474", func := "rafter/rafterlaw03.RatioOrder", spec := "ratioOrder", apart := false }
def RatioOrderSaid : Prop := ratioOrderRow.holds Try.pinned (OpenSpec.ofChange ratioOrderSpec)

/-- ITS FALSE NEIGHBOUR: 'it returns false'. Refute it at one input. -/
def ratioOrderWrong : ChangeSpec := { name := "ratioOrder", fn := fun _ => fun
  | [d1, d2, d3] => { results := [.lit (.bool false)], args := [d1, d2, d3] }
  | _ => none }
def RatioOrderWrongFalsely : Prop := ratioOrderRow.holds Try.pinned (OpenSpec.ofChange ratioOrderWrong)

/-- 'rafterlaw03.RatioSums': WHATEVER THE INPUT: true; the input reads as it did. -/
def ratioSumsSpec : ChangeSpec := { name := "ratioSums", fn := fun _ => fun
  | [d1, d2] => { results := [.lit (.bool true)], args := [d1, d2] }
  | _ => none }
def ratioSumsRow : OpenClaim := { program := "ytgebemjmckgomaa", sum := "565e01bbf430bb22dbf405f378ee995a66e29ca4e3a1670e09a5cce0b09dc474", func := "rafter/rafterlaw03.RatioSums", spec := "ratioSums", apart := false }
def RatioSumsSaid : Prop := ratioSumsRow.holds Try.pinned (OpenSpec.ofChange ratioSumsSpec)

/-- ITS FALSE NEIGHBOUR: 'it returns false'. Refute it at one input. -/
def ratioSumsWrong : ChangeSpec := { name := "ratioSums", fn := fun _ => fun
  | [d1, d2] => { results := [.lit (.bool false)], args := [d1, d2] }
  | _ => none }
def RatioSumsWrongFalsely : Prop := ratioSumsRow.holds Try.pinned (OpenSpec.ofChange ratioSumsWrong)

/-- 'rafterlaw03.RatioFloors': WHATEVER THE INPUT: true; the input reads as it did. -/
def ratioFloorsSpec : ChangeSpec := { name := "ratioFloors", fn := fun _ => fun
  | [d1, d2] => { results := [.lit (.bool true)], args := [d1, d2] }
  | _ => none }
def ratioFloorsRow : OpenClaim := { program := "ytgebemjmckgomaa", sum := "565e01bbf430bb22dbf405f378ee995a66e29ca4e3a1670e09a5cce0b09dc474", func := "rafter/rafterlaw03.RatioFloors", spec := "ratioFloors", apart := false }
def RatioFloorsSaid : Prop := ratioFloorsRow.holds Try.pinned (OpenSpec.ofChange ratioFloorsSpec)

/-- ITS FALSE NEIGHBOUR: 'it returns false'. Refute it at one input. -/
def ratioFloorsWrong : ChangeSpec := { name := "ratioFloors", fn := fun _ => fun
  | [d1, d2] => { results := [.lit (.bool false)], args := [d1, d2] }
  | _ => none }
def RatioFloorsWrongFalsely : Prop := ratioFloorsRow.holds Try.pinned (OpenSpec.ofChange ratioFloorsWrong)

/-- 'rafterlaw03.RatioTexts': WHATEVER THE INPUT: true; the input reads as it did. -/
def ratioTextsSpec : ChangeSpec := { name := "ratioTexts", fn := fun _ => fun
  | [d1, d2] => { results := [.lit (.bool true)], args := [d1, d2] }
  | _ => none }
def ratioTextsRow : OpenClaim := { program := "ytgebemjmckgomaa", sum := "565e01bbf430bb22dbf405f378ee995a66e29ca4e3a1670e09a5cce0b09dc474", func := "rafter/rafterlaw03.RatioTexts", spec := "ratioTexts", inPlace := ["internal/bytealg.IndexByteString", "internal/bytealg.IndexString"], named := ["internal/bytealg.MaxLen"], apart := false }
def RatioTextsSaid : Prop := ratioTextsRow.holds Try.pinned (OpenSpec.ofChange ratioTextsSpec)

/-- ITS FALSE NEIGHBOUR: 'it returns false'. Refute it at one input. -/
def ratioTextsWrong : ChangeSpec := { name := "ratioTexts", fn := fun _ => fun
  | [d1, d2] => { results := [.lit (.bool false)], args := [d1, d2] }
  | _ => none }
def RatioTextsWrongFalsely : Prop := ratioTextsRow.holds Try.pinned (OpenSpec.ofChange ratioTextsWrong)

/-- 'rafterlaw03.RatioBack': WHATEVER THE INPUT: true; the input reads as it did. -/
def ratioBackSpec : ChangeSpec := { name := "ratioBack", fn := fun _ => fun
  | [d] => { results := [.lit (.bool true)], args := [d] }
  | _ => none }
def ratioBackRow : OpenClaim := { program := "ytgebemjmckgomaa", sum := "565e01bbf430bb22dbf405f378ee995a66e29ca4e3a1670e09a5cce0b09dc474", func := "rafter/rafterlaw03.RatioBack", spec := "ratioBack", inPlace := ["internal/bytealg.IndexByteString", "internal/bytealg.IndexString"], named := ["internal/bytealg.MaxLen"], apart := false }
def RatioBackSaid : Prop := ratioBackRow.holds Try.pinned (OpenSpec.ofChange ratioBackSpec)

/-- ITS FALSE NEIGHBOUR: 'it returns false'. Refute it at one input. -/
def ratioBackWrong : ChangeSpec := { name := "ratioBack", fn := fun _ => fun
  | [d] => { results := [.lit (.bool false)], args := [d] }
  | _ => none }
def RatioBackWrongFalsely : Prop := ratioBackRow.holds Try.pinned (OpenSpec.ofChange ratioBackWrong)

/- THE SECOND FORM. 'bulk': how many values and letters a reading holds, each counted each time it is reached (what is shared counts as often as it is met; a slice's spare places count too). A statement '..UptoSaid' is the law's where the arguments, and the package variables that the reading takes, are together of bulk at most 1048576: NARROWER than '..Said'. Prove '..Said' where nothing that the law and all that it calls make is longer than what came in: it says more and counts as full. Else prove '..UptoSaid'. A law counts once. -/
mutual
def uptoBulk {H : Type} : DataW H → Nat
  | .lit (.string bytes) => bytes.length + 1
  | .lit _ => 1
  | .nil => 1
  | .ptr d => uptoBulk d + 1
  | .slice elems spare => uptoBulkAll elems + uptoBulkAll spare + 1
  | .agg parts => uptoBulkAll parts + 1
  | .iface _ d => uptoBulk d + 1
  | .map entries => uptoBulkEntries entries + 1
  | .held _ => 1
def uptoBulkAll {H : Type} : List (DataW H) → Nat
  | [] => 0
  | d :: r => uptoBulk d + uptoBulkAll r
def uptoBulkEntries {H : Type} : List (Lit × DataW H) → Nat
  | [] => 0
  | x :: r => uptoBulkEntry x + uptoBulkEntries r
def uptoBulkEntry {H : Type} : Lit × DataW H → Nat
  | (.string bytes, d) => bytes.length + uptoBulk d + 1
  | (_, d) => uptoBulk d + 1
 end
def uptoSmall : (H : Type) → List (DataW H) → Bool := fun _ ds => decide (uptoBulkAll ds ≤ 1048576)
def OpenSpec.upto (s : _root_.Go.ChangeSpec) : _root_.Go.OpenSpec := { _root_.Go.OpenSpec.ofChange s with cond := some uptoSmall }

/-- 'rafterlaw03.RatioMakes', WHERE WHAT IT READS IS OF BULK AT MOST 1048576: true; the input reads as it did. -/
def ratioMakesUptoRow : OpenClaim := { program := "ytgebemjmckgomaa", sum := "565e01bbf430bb22dbf405f378ee995a66e29ca4e3a1670e09a5cce0b09dc474", func := "rafter/rafterlaw03.RatioMakes", spec := "ratioMakes", apart := false, narrowed := true }
def RatioMakesUptoSaid : Prop := ratioMakesUptoRow.holds Try.pinned (OpenSpec.upto ratioMakesSpec)

/-- 'rafterlaw03.RatioLowest', WHERE WHAT IT READS IS OF BULK AT MOST 1048576: true; the input reads as it did. -/
def ratioLowestUptoRow : OpenClaim := { program := "ytgebemjmckgomaa", sum := "565e01bbf430bb22dbf405f378ee995a66e29ca4e3a1670e09a5cce0b09dc474", func := "rafter/rafterlaw03.RatioLowest", spec := "ratioLowest", apart := false, narrowed := true }
def RatioLowestUptoSaid : Prop := ratioLowestUptoRow.holds Try.pinned (OpenSpec.upto ratioLowestSpec)

/-- 'rafterlaw03.RatioField', WHERE WHAT IT READS IS OF BULK AT MOST 1048576: true; the input reads as it did. -/
def ratioFieldUptoRow : OpenClaim := { program := "ytgebemjmckgomaa", sum := "565e01bbf430bb22dbf405f378ee995a66e29ca4e3a1670e09a5cce0b09dc474", func := "rafter/rafterlaw03.RatioField", spec := "ratioField", apart := false, narrowed := true }
def RatioFieldUptoSaid : Prop := ratioFieldUptoRow.holds Try.pinned (OpenSpec.upto ratioFieldSpec)

/-- 'rafterlaw03.RatioReads', WHERE WHAT IT READS IS OF BULK AT MOST 1048576: true; the input reads as it did. -/
def ratioReadsUptoRow : OpenClaim := { program := "ytgebemjmckgomaa", sum := "565e01bbf430bb22dbf405f378ee995a66e29ca4e3a1670e09a5cce0b09dc474", func := "rafter/rafterlaw03.RatioReads", spec := "ratioReads", apart := false, narrowed := true }
def RatioReadsUptoSaid : Prop := ratioReadsUptoRow.holds Try.pinned (OpenSpec.upto ratioReadsSpec)

/-- 'rafterlaw03.RatioOrder', WHERE WHAT IT READS IS OF BULK AT MOST 1048576: true; the input reads as it did. -/
def ratioOrderUptoRow : OpenClaim := { program := "ytgebemjmckgomaa", sum := "565e01bbf430bb22dbf405f378ee995a66e29ca4e3a1670e09a5cce0b09dc474", func := "rafter/rafterlaw03.RatioOrder", spec := "ratioOrder", apart := false, narrowed := true }
def RatioOrderUptoSaid : Prop := ratioOrderUptoRow.holds Try.pinned (OpenSpec.upto ratioOrderSpec)

/-- 'rafterlaw03.RatioSums', WHERE WHAT IT READS IS OF BULK AT MOST 1048576: true; the input reads as it did. -/
def ratioSumsUptoRow : OpenClaim := { program := "ytgebemjmckgomaa", sum := "565e01bbf430bb22dbf405f378ee995a66e29ca4e3a1670e09a5cce0b09dc474", func := "rafter/rafterlaw03.RatioSums", spec := "ratioSums", apart := false, narrowed := true }
def RatioSumsUptoSaid : Prop := ratioSumsUptoRow.holds Try.pinned (OpenSpec.upto ratioSumsSpec)

/-- 'rafterlaw03.RatioFloors', WHERE WHAT IT READS IS OF BULK AT MOST 1048576: true; the input reads as it did. -/
def ratioFloorsUptoRow : OpenClaim := { program := "ytgebemjmckgomaa", sum := "565e01bbf430bb22dbf405f378ee995a66e29ca4e3a1670e09a5cce0b09dc474", func := "rafter/rafterlaw03.RatioFloors", spec := "ratioFloors", apart := false, narrowed := true }
def RatioFloorsUptoSaid : Prop := ratioFloorsUptoRow.holds Try.pinned (OpenSpec.upto ratioFloorsSpec)

/-- 'rafterlaw03.RatioTexts', WHERE WHAT IT READS IS OF BULK AT MOST 1048576: true; the input reads as it did. -/
def ratioTextsUptoRow : OpenClaim := { program := "ytgebemjmckgomaa", sum := "565e01bbf430bb22dbf405f378ee995a66e29ca4e3a1670e09a5cce0b09dc474", func := "rafter/rafterlaw03.RatioTexts", spec := "ratioTexts", inPlace := ["internal/bytealg.IndexByteString", "internal/bytealg.IndexString"], named := ["internal/bytealg.MaxLen"], apart := false, narrowed := true }
def RatioTextsUptoSaid : Prop := ratioTextsUptoRow.holds Try.pinned (OpenSpec.upto ratioTextsSpec)

/-- 'rafterlaw03.RatioBack', WHERE WHAT IT READS IS OF BULK AT MOST 1048576: true; the input reads as it did. -/
def ratioBackUptoRow : OpenClaim := { program := "ytgebemjmckgomaa", sum := "565e01bbf430bb22dbf405f378ee995a66e29ca4e3a1670e09a5cce0b09dc474", func := "rafter/rafterlaw03.RatioBack", spec := "ratioBack", inPlace := ["internal/bytealg.IndexByteString", "internal/bytealg.IndexString"], named := ["internal/bytealg.MaxLen"], apart := false, narrowed := true }
def RatioBackUptoSaid : Prop := ratioBackUptoRow.holds Try.pinned (OpenSpec.upto ratioBackSpec)

end Rows
end Go.Proofs.Ytgebemjmckgomaa
