/-
  No cell of these rows narrows 'for every input' (looked for: loops, veiled, ifaces, maps, wideKeys, modest, calm, conditions, laid).
  DERIVED. THE GIVEN ROWS OF THIS SEAT. 11 by the template 'for every input the law returns true; each argument reads behind the call as it read before'; 0 by the template 'total and deterministic' (their statements: YtfbmdbgjfnkmiaaTotals.lean).
  GIVEN WITH THE SEED: the statements are not yours to turn. If you find one false, say at which input.
  Laid BY PROGRAM, IN A SANDBOX (cutbox-rows.mjs): the forced cells as the released guide's own fill.sh prints them over the translation 8762125518ab6073… (all of the seat's roots in one cut). By AI agents, Wed Nov 11 2026. No macro, syntax, notation, axiom, sorry.
-/
import Derived.Test.YtfbmdbgjfnkmiaaChecked
import GoSem.Claim
import GoSem.ClaimJoined
import GoSem.ClaimMapViews
import Derived.JoinedTies
import Derived.KernelRfl
namespace Go.Proofs.Ytfbmdbgjfnkmiaa
/- THE CELL 'sum', in the pinned program and in every row, IS THE sha256 OF THE DUMP (.gsa) THAT YtfbmdbgjfnkmiaaProg.lean LOADS. Nothing in Lean hashes anything: it is a label: what it is worth is what the hold of that sum in a sandbox is worth. -/
noncomputable def Try.pinned : Pinned := { name := "ytfbmdbgjfnkmiaa", sum := "8762125518ab6073c8717b8529f64b25c1cdedf45017f4d699c56a33a675e9f2", checked := Try.checked }
namespace Rows
def none {H : Type} : Left H := { results := [], args := [] }

/-- 'rafterlaw02.WholeSum': WHATEVER THE INPUT: true; the input reads as it did. -/
def wholeSumSpec : ChangeSpec := { name := "wholeSum", fn := fun _ => fun
  | [d] => { results := [.lit (.bool true)], args := [d] }
  | _ => none }
def wholeSumRow : OpenClaim := { program := "ytfbmdbgjfnkmiaa", sum := "8762125518ab6073c8717b8529f64b25c1cdedf45017f4d699c56a33a675e9f2", func := "rafter/rafterlaw02.WholeSum", spec := "wholeSum", apart := false }
def WholeSumSaid : Prop := wholeSumRow.holds Try.pinned (OpenSpec.ofChange wholeSumSpec)

/-- ITS FALSE NEIGHBOUR: 'it returns false'. Refute it at one input. -/
def wholeSumWrong : ChangeSpec := { name := "wholeSum", fn := fun _ => fun
  | [d] => { results := [.lit (.bool false)], args := [d] }
  | _ => none }
def WholeSumWrongFalsely : Prop := wholeSumRow.holds Try.pinned (OpenSpec.ofChange wholeSumWrong)

/-- 'rafterlaw02.WholeOrder': WHATEVER THE INPUT: true; the input reads as it did. -/
def wholeOrderSpec : ChangeSpec := { name := "wholeOrder", fn := fun _ => fun
  | [d1, d2, d3] => { results := [.lit (.bool true)], args := [d1, d2, d3] }
  | _ => none }
def wholeOrderRow : OpenClaim := { program := "ytfbmdbgjfnkmiaa", sum := "8762125518ab6073c8717b8529f64b25c1cdedf45017f4d699c56a33a675e9f2", func := "rafter/rafterlaw02.WholeOrder", spec := "wholeOrder", apart := false }
def WholeOrderSaid : Prop := wholeOrderRow.holds Try.pinned (OpenSpec.ofChange wholeOrderSpec)

/-- ITS FALSE NEIGHBOUR: 'it returns false'. Refute it at one input. -/
def wholeOrderWrong : ChangeSpec := { name := "wholeOrder", fn := fun _ => fun
  | [d1, d2, d3] => { results := [.lit (.bool false)], args := [d1, d2, d3] }
  | _ => none }
def WholeOrderWrongFalsely : Prop := wholeOrderRow.holds Try.pinned (OpenSpec.ofChange wholeOrderWrong)

/-- 'rafterlaw02.WholeRing': WHATEVER THE INPUT: true; the input reads as it did. -/
def wholeRingSpec : ChangeSpec := { name := "wholeRing", fn := fun _ => fun
  | [d1, d2, d3] => { results := [.lit (.bool true)], args := [d1, d2, d3] }
  | _ => none }
def wholeRingRow : OpenClaim := { program := "ytfbmdbgjfnkmiaa", sum := "8762125518ab6073c8717b8529f64b25c1cdedf45017f4d699c56a33a675e9f2", func := "rafter/rafterlaw02.WholeRing", spec := "wholeRing", apart := false }
def WholeRingSaid : Prop := wholeRingRow.holds Try.pinned (OpenSpec.ofChange wholeRingSpec)

/-- ITS FALSE NEIGHBOUR: 'it returns false'. Refute it at one input. -/
def wholeRingWrong : ChangeSpec := { name := "wholeRing", fn := fun _ => fun
  | [d1, d2, d3] => { results := [.lit (.bool false)], args := [d1, d2, d3] }
  | _ => none }
def WholeRingWrongFalsely : Prop := wholeRingRow.holds Try.pinned (OpenSpec.ofChange wholeRingWrong)

/-- 'rafterlaw02.WholeReads': WHATEVER THE INPUT: true; the input reads as it did. -/
def wholeReadsSpec : ChangeSpec := { name := "wholeReads", fn := fun _ => fun
  | [d1, d2] => { results := [.lit (.bool true)], args := [d1, d2] }
  | _ => none }
def wholeReadsRow : OpenClaim := { program := "ytfbmdbgjfnkmiaa", sum := "8762125518ab6073c8717b8529f64b25c1cdedf45017f4d699c56a33a675e9f2", func := "rafter/rafterlaw02.WholeReads", spec := "wholeReads", apart := false }
def WholeReadsSaid : Prop := wholeReadsRow.holds Try.pinned (OpenSpec.ofChange wholeReadsSpec)

/-- ITS FALSE NEIGHBOUR: 'it returns false'. Refute it at one input. -/
def wholeReadsWrong : ChangeSpec := { name := "wholeReads", fn := fun _ => fun
  | [d1, d2] => { results := [.lit (.bool false)], args := [d1, d2] }
  | _ => none }
def WholeReadsWrongFalsely : Prop := wholeReadsRow.holds Try.pinned (OpenSpec.ofChange wholeReadsWrong)

/-- 'rafterlaw02.WholeSums': WHATEVER THE INPUT: true; the input reads as it did. -/
def wholeSumsSpec : ChangeSpec := { name := "wholeSums", fn := fun _ => fun
  | [d1, d2] => { results := [.lit (.bool true)], args := [d1, d2] }
  | _ => none }
def wholeSumsRow : OpenClaim := { program := "ytfbmdbgjfnkmiaa", sum := "8762125518ab6073c8717b8529f64b25c1cdedf45017f4d699c56a33a675e9f2", func := "rafter/rafterlaw02.WholeSums", spec := "wholeSums", apart := false }
def WholeSumsSaid : Prop := wholeSumsRow.holds Try.pinned (OpenSpec.ofChange wholeSumsSpec)

/-- ITS FALSE NEIGHBOUR: 'it returns false'. Refute it at one input. -/
def wholeSumsWrong : ChangeSpec := { name := "wholeSums", fn := fun _ => fun
  | [d1, d2] => { results := [.lit (.bool false)], args := [d1, d2] }
  | _ => none }
def WholeSumsWrongFalsely : Prop := wholeSumsRow.holds Try.pinned (OpenSpec.ofChange wholeSumsWrong)

/-- 'rafterlaw02.WholeDivides': WHATEVER THE INPUT: true; the input reads as it did. -/
def wholeDividesSpec : ChangeSpec := { name := "wholeDivides", fn := fun _ => fun
  | [d1, d2] => { results := [.lit (.bool true)], args := [d1, d2] }
  | _ => none }
def wholeDividesRow : OpenClaim := { program := "ytfbmdbgjfnkmiaa", sum := "8762125518ab6073c8717b8529f64b25c1cdedf45017f4d699c56a33a675e9f2", func := "rafter/rafterlaw02.WholeDivides", spec := "wholeDivides", apart := false }
def WholeDividesSaid : Prop := wholeDividesRow.holds Try.pinned (OpenSpec.ofChange wholeDividesSpec)

/-- ITS FALSE NEIGHBOUR: 'it returns false'. Refute it at one input. -/
def wholeDividesWrong : ChangeSpec := { name := "wholeDivides", fn := fun _ => fun
  | [d1, d2] => { results := [.lit (.bool false)], args := [d1, d2] }
  | _ => none }
def WholeDividesWrongFalsely : Prop := wholeDividesRow.holds Try.pinned (OpenSpec.ofChange wholeDividesWrong)

/-- 'rafterlaw02.WholeRest': WHATEVER THE INPUT: true; the input reads as it did. -/
def wholeRestSpec : ChangeSpec := { name := "wholeRest", fn := fun _ => fun
  | [d1, d2] => { results := [.lit (.bool true)], args := [d1, d2] }
  | _ => none }
def wholeRestRow : OpenClaim := { program := "ytfbmdbgjfnkmiaa", sum := "8762125518ab6073c8717b8529f64b25c1cdedf45017f4d699c56a33a675e9f2", func := "rafter/rafterlaw02.WholeRest", spec := "wholeRest", apart := false }
def WholeRestSaid : Prop := wholeRestRow.holds Try.pinned (OpenSpec.ofChange wholeRestSpec)

/-- ITS FALSE NEIGHBOUR: 'it returns false'. Refute it at one input. -/
def wholeRestWrong : ChangeSpec := { name := "wholeRest", fn := fun _ => fun
  | [d1, d2] => { results := [.lit (.bool false)], args := [d1, d2] }
  | _ => none }
def WholeRestWrongFalsely : Prop := wholeRestRow.holds Try.pinned (OpenSpec.ofChange wholeRestWrong)

/-- 'rafterlaw02.WholeDivisors': WHATEVER THE INPUT: true; the input reads as it did. -/
def wholeDivisorsSpec : ChangeSpec := { name := "wholeDivisors", fn := fun _ => fun
  | [d1, d2] => { results := [.lit (.bool true)], args := [d1, d2] }
  | _ => none }
def wholeDivisorsRow : OpenClaim := { program := "ytfbmdbgjfnkmiaa", sum := "8762125518ab6073c8717b8529f64b25c1cdedf45017f4d699c56a33a675e9f2", func := "rafter/rafterlaw02.WholeDivisors", spec := "wholeDivisors", apart := false }
def WholeDivisorsSaid : Prop := wholeDivisorsRow.holds Try.pinned (OpenSpec.ofChange wholeDivisorsSpec)

/-- ITS FALSE NEIGHBOUR: 'it returns false'. Refute it at one input. -/
def wholeDivisorsWrong : ChangeSpec := { name := "wholeDivisors", fn := fun _ => fun
  | [d1, d2] => { results := [.lit (.bool false)], args := [d1, d2] }
  | _ => none }
def WholeDivisorsWrongFalsely : Prop := wholeDivisorsRow.holds Try.pinned (OpenSpec.ofChange wholeDivisorsWrong)

/-- 'rafterlaw02.WholeTops': WHATEVER THE INPUT: true; the input reads as it did. -/
def wholeTopsSpec : ChangeSpec := { name := "wholeTops", fn := fun _ => fun
  | [d1, d2] => { results := [.lit (.bool true)], args := [d1, d2] }
  | _ => none }
def wholeTopsRow : OpenClaim := { program := "ytfbmdbgjfnkmiaa", sum := "8762125518ab6073c8717b8529f64b25c1cdedf45017f4d699c56a33a675e9f2", func := "rafter/rafterlaw02.WholeTops", spec := "wholeTops", apart := false }
def WholeTopsSaid : Prop := wholeTopsRow.holds Try.pinned (OpenSpec.ofChange wholeTopsSpec)

/-- ITS FALSE NEIGHBOUR: 'it returns false'. Refute it at one input. -/
def wholeTopsWrong : ChangeSpec := { name := "wholeTops", fn := fun _ => fun
  | [d1, d2] => { results := [.lit (.bool false)], args := [d1, d2] }
  | _ => none }
def WholeTopsWrongFalsely : Prop := wholeTopsRow.holds Try.pinned (OpenSpec.ofChange wholeTopsWrong)

/-- 'rafterlaw02.WholeTexts': WHATEVER THE INPUT: true; the input reads as it did. -/
def wholeTextsSpec : ChangeSpec := { name := "wholeTexts", fn := fun _ => fun
  | [d1, d2] => { results := [.lit (.bool true)], args := [d1, d2] }
  | _ => none }
def wholeTextsRow : OpenClaim := { program := "ytfbmdbgjfnkmiaa", sum := "8762125518ab6073c8717b8529f64b25c1cdedf45017f4d699c56a33a675e9f2", func := "rafter/rafterlaw02.WholeTexts", spec := "wholeTexts", apart := false }
def WholeTextsSaid : Prop := wholeTextsRow.holds Try.pinned (OpenSpec.ofChange wholeTextsSpec)

/-- ITS FALSE NEIGHBOUR: 'it returns false'. Refute it at one input. -/
def wholeTextsWrong : ChangeSpec := { name := "wholeTexts", fn := fun _ => fun
  | [d1, d2] => { results := [.lit (.bool false)], args := [d1, d2] }
  | _ => none }
def WholeTextsWrongFalsely : Prop := wholeTextsRow.holds Try.pinned (OpenSpec.ofChange wholeTextsWrong)

/-- 'rafterlaw02.WholeBack': WHATEVER THE INPUT: true; the input reads as it did. -/
def wholeBackSpec : ChangeSpec := { name := "wholeBack", fn := fun _ => fun
  | [d1, d2] => { results := [.lit (.bool true)], args := [d1, d2] }
  | _ => none }
def wholeBackRow : OpenClaim := { program := "ytfbmdbgjfnkmiaa", sum := "8762125518ab6073c8717b8529f64b25c1cdedf45017f4d699c56a33a675e9f2", func := "rafter/rafterlaw02.WholeBack", spec := "wholeBack", apart := false }
def WholeBackSaid : Prop := wholeBackRow.holds Try.pinned (OpenSpec.ofChange wholeBackSpec)

/-- ITS FALSE NEIGHBOUR: 'it returns false'. Refute it at one input. -/
def wholeBackWrong : ChangeSpec := { name := "wholeBack", fn := fun _ => fun
  | [d1, d2] => { results := [.lit (.bool false)], args := [d1, d2] }
  | _ => none }
def WholeBackWrongFalsely : Prop := wholeBackRow.holds Try.pinned (OpenSpec.ofChange wholeBackWrong)

/- THE SECOND FORM. 'bulk': how many values and letters a reading holds, each counted each time it is reached (what is shared counts as often as it is met; a slice's spare places count too). A statement '..UptoSaid' is the law's where the arguments, and the package variables that the reading takes, are together of bulk at most 1048576: NARROWER than '..Said'. Prove '..Said' where nothing that the law and all that it calls make is longer than what came in: it says more and counts as full. Else prove '..UptoSaid'. A law counts once. -/
mutual
def uptoBulk {H : Type} : DataW H → Nat
  | .lit (.string bytes) => bytes.length + 1
  | .lit _ => 1
  | .nil => 1
  | .ptr d => uptoBulk d + 1
  | .slice elems spare => uptoBulkAll elems + uptoBulkAll spare + 1
  | .agg parts => uptoBulkAll parts + 1
  | .iface _ d => uptoBulk d + 1
  | .map entries => uptoBulkEntries entries + 1
  | .held _ => 1
def uptoBulkAll {H : Type} : List (DataW H) → Nat
  | [] => 0
  | d :: r => uptoBulk d + uptoBulkAll r
def uptoBulkEntries {H : Type} : List (Lit × DataW H) → Nat
  | [] => 0
  | x :: r => uptoBulkEntry x + uptoBulkEntries r
def uptoBulkEntry {H : Type} : Lit × DataW H → Nat
  | (.string bytes, d) => bytes.length + uptoBulk d + 1
  | (_, d) => uptoBulk d + 1
 end
def uptoSmall : (H : Type) → List (DataW H) → Bool := fun _ ds => decide (uptoBulkAll ds ≤ 1048576)
def OpenSpec.upto (s : _root_.Go.ChangeSpec) : _root_.Go.OpenSpec := { _root_.Go.OpenSpec.ofChange s with cond := some uptoSmall }

/-- 'rafterlaw02.WholeSum', WHERE WHAT IT READS IS OF BULK AT MOST 1048576: true; the input reads as it did. -/
def wholeSumUptoRow : OpenClaim := { program := "ytfbmdbgjfnkmiaa", sum := "8762125518ab6073c8717b8529f64b25c1cdedf45017f4d699c56a33a675e9f2", func := "rafter/rafterlaw02.WholeSum", spec := "wholeSum", apart := false, narrowed := true }
def WholeSumUptoSaid : Prop := wholeSumUptoRow.holds Try.pinned (OpenSpec.upto wholeSumSpec)

/-- 'rafterlaw02.WholeOrder', WHERE WHAT IT READS IS OF BULK AT MOST 1048576: true; the input reads as it did. -/
def wholeOrderUptoRow : OpenClaim := { program := "ytfbmdbgjfnkmiaa", sum := "8762125518ab6073c8717b8529f64b25c1cdedf45017f4d699c56a33a675e9f2", func := "rafter/rafterlaw02.WholeOrder", spec := "wholeOrder", apart := false, narrowed := true }
def WholeOrderUptoSaid : Prop := wholeOrderUptoRow.holds Try.pinned (OpenSpec.upto wholeOrderSpec)

/-- 'rafterlaw02.WholeRing', WHERE WHAT IT READS IS OF BULK AT MOST 1048576: true; the input reads as it did. -/
def wholeRingUptoRow : OpenClaim := { program := "ytfbmdbgjfnkmiaa", sum := "8762125518ab6073c8717b8529f64b25c1cdedf45017f4d699c56a33a675e9f2", func := "rafter/rafterlaw02.WholeRing", spec := "wholeRing", apart := false, narrowed := true }
def WholeRingUptoSaid : Prop := wholeRingUptoRow.holds Try.pinned (OpenSpec.upto wholeRingSpec)

/-- 'rafterlaw02.WholeReads', WHERE WHAT IT READS IS OF BULK AT MOST 1048576: true; the input reads as it did. -/
def wholeReadsUptoRow : OpenClaim := { program := "ytfbmdbgjfnkmiaa", sum := "8762125518ab6073c8717b8529f64b25c1cdedf45017f4d699c56a33a675e9f2", func := "rafter/rafterlaw02.WholeReads", spec := "wholeReads", apart := false, narrowed := true }
def WholeReadsUptoSaid : Prop := wholeReadsUptoRow.holds Try.pinned (OpenSpec.upto wholeReadsSpec)

/-- 'rafterlaw02.WholeSums', WHERE WHAT IT READS IS OF BULK AT MOST 1048576: true; the input reads as it did. -/
def wholeSumsUptoRow : OpenClaim := { program := "ytfbmdbgjfnkmiaa", sum := "8762125518ab6073c8717b8529f64b25c1cdedf45017f4d699c56a33a675e9f2", func := "rafter/rafterlaw02.WholeSums", spec := "wholeSums", apart := false, narrowed := true }
def WholeSumsUptoSaid : Prop := wholeSumsUptoRow.holds Try.pinned (OpenSpec.upto wholeSumsSpec)

/-- 'rafterlaw02.WholeDivides', WHERE WHAT IT READS IS OF BULK AT MOST 1048576: true; the input reads as it did. -/
def wholeDividesUptoRow : OpenClaim := { program := "ytfbmdbgjfnkmiaa", sum := "8762125518ab6073c8717b8529f64b25c1cdedf45017f4d699c56a33a675e9f2", func := "rafter/rafterlaw02.WholeDivides", spec := "wholeDivides", apart := false, narrowed := true }
def WholeDividesUptoSaid : Prop := wholeDividesUptoRow.holds Try.pinned (OpenSpec.upto wholeDividesSpec)

/-- 'rafterlaw02.WholeRest', WHERE WHAT IT READS IS OF BULK AT MOST 1048576: true; the input reads as it did. -/
def wholeRestUptoRow : OpenClaim := { program := "ytfbmdbgjfnkmiaa", sum := "8762125518ab6073c8717b8529f64b25c1cdedf45017f4d699c56a33a675e9f2", func := "rafter/rafterlaw02.WholeRest", spec := "wholeRest", apart := false, narrowed := true }
def WholeRestUptoSaid : Prop := wholeRestUptoRow.holds Try.pinned (OpenSpec.upto wholeRestSpec)

/-- 'rafterlaw02.WholeDivisors', WHERE WHAT IT READS IS OF BULK AT MOST 1048576: true; the input reads as it did. -/
def wholeDivisorsUptoRow : OpenClaim := { program := "ytfbmdbgjfnkmiaa", sum := "8762125518ab6073c8717b8529f64b25c1cdedf45017f4d699c56a33a675e9f2", func := "rafter/rafterlaw02.WholeDivisors", spec := "wholeDivisors", apart := false, narrowed := true }
def WholeDivisorsUptoSaid : Prop := wholeDivisorsUptoRow.holds Try.pinned (OpenSpec.upto wholeDivisorsSpec)

/-- 'rafterlaw02.WholeTops', WHERE WHAT IT READS IS OF BULK AT MOST 1048576: true; the input reads as it did. -/
def wholeTopsUptoRow : OpenClaim := { program := "ytfbmdbgjfnkmiaa", sum := "8762125518ab6073c8717b8529f64b25c1cdedf45017f4d699c56a33a675e9f2", func := "rafter/rafterlaw02.WholeTops", spec := "wholeTops", apart := false, narrowed := true }
def WholeTopsUptoSaid : Prop := wholeTopsUptoRow.holds Try.pinned (OpenSpec.upto wholeTopsSpec)

/-- 'rafterlaw02.WholeTexts', WHERE WHAT IT READS IS OF BULK AT MOST 1048576: true; the input reads as it did. -/
def wholeTextsUptoRow : OpenClaim := { program := "ytfbmdbgjfnkmiaa", sum := "8762125518ab6073c8717b8529f64b25c1cdedf45017f4d699c56a33a675e9f2", func := "rafter/rafterlaw02.WholeTexts", spec := "wholeTexts", apart := false, narrowed := true }
def WholeTextsUptoSaid : Prop := wholeTextsUptoRow.holds Try.pinned (OpenSpec.upto wholeTextsSpec)

/-- 'rafterlaw02.WholeBack', WHERE WHAT IT READS IS OF BULK AT MOST 1048576: true; the input reads as it did. -/
def wholeBackUptoRow : OpenClaim := { program := "ytfbmdbgjfnkmiaa", sum := "8762125518ab6073c8717b8529f64b25c1cdedf45017f4d699c56a33a675e9f2", func := "rafter/rafterlaw02.WholeBack", spec := "wholeBack", apart := false, narrowed := true }
def WholeBackUptoSaid : Prop := wholeBackUptoRow.holds Try.pinned (OpenSpec.upto wholeBackSpec)

end Rows
end Go.Proofs.Ytfbmdbgjfnkmiaa
