/-
  No cell of these rows narrows 'for every input' (looked for: loops, veiled, ifaces, maps, wideKeys, modest, calm, conditions, laid).
  DERIVED. THE GIVEN ROWS OF THIS SEAT. 6 by the template 'for every input the law returns true; each argument reads behind the call as it read before'; 0 by the template 'total and deterministic' (their statements: YtehnbdbhjeffaaaGreatTotals.lean).
  GIVEN WITH THE SEED: the statements are not yours to turn. If you find one false, say at which input.
  Laid BY PROGRAM, IN A SANDBOX (cutbox-rows.mjs): the forced cells as the released guide's own fill.sh prints them over the translation be9face583ee812c… (all of the seat's roots in one cut). By AI agents, Wed Nov 11 2026. No macro, syntax, notation, axiom, sorry.
-/
import Derived.Test.YtehnbdbhjeffaaaGreatChecked
import GoSem.Claim
import GoSem.ClaimJoined
import GoSem.ClaimMapViews
import Derived.JoinedTies
import Derived.KernelRfl
namespace Go.Proofs.YtehnbdbhjeffaaaGreat
/- THE CELL 'sum', in the pinned program and in every row, IS THE sha256 OF THE DUMP (.gsa) THAT YtehnbdbhjeffaaaGreatProg.lean LOADS. Nothing in Lean hashes anything: it is a label: what it is worth is what the hold of that sum in a sandbox is worth. -/
noncomputable def Tryz.pinned : Pinned := { name := "ytehnbdbhjeffaaagreat", sum := "be9face583ee812c95fde4687eb6452bb6c06a10e44ce706968d1a1232569053", checked := Tryz.checked }
namespace Rows
def none {H : Type} : Left H := { results := [], args := [] }

/-- 'galoislaw48.PeriodPolynomials': WHATEVER THE INPUT: true; the input reads as it did. -/
def periodPolynomialsSpec : ChangeSpec := { name := "periodPolynomials", fn := fun _ => fun
  | [d1, d2] => { results := [.lit (.bool true)], args := [d1, d2] }
  | _ => none }
def periodPolynomialsRow : OpenClaim := { program := "ytehnbdbhjeffaaagreat", sum := "be9face583ee812c95fde4687eb6452bb6c06a10e44ce706968d1a1232569053", func := "galois/galoislaw48.PeriodPolynomials", spec := "periodPolynomials", inPlace := ["math/bits.Add64", "math/bits.Sub64"], unfollowed := true, recurses := true, named := ["math/bits.divideError", "math/bits.overflowError"], apart := false }
def PeriodPolynomialsSaid : Prop := periodPolynomialsRow.holds Tryz.pinned (OpenSpec.ofChange periodPolynomialsSpec)

/-- ITS FALSE NEIGHBOUR: 'it returns false'. Refute it at one input. -/
def periodPolynomialsWrong : ChangeSpec := { name := "periodPolynomials", fn := fun _ => fun
  | [d1, d2] => { results := [.lit (.bool false)], args := [d1, d2] }
  | _ => none }
def PeriodPolynomialsWrongFalsely : Prop := periodPolynomialsRow.holds Tryz.pinned (OpenSpec.ofChange periodPolynomialsWrong)

/-- 'galoislaw48.PeriodCoordinates': WHATEVER THE INPUT: true; the input reads as it did. -/
def periodCoordinatesSpec : ChangeSpec := { name := "periodCoordinates", fn := fun _ => fun
  | [d1, d2, d3] => { results := [.lit (.bool true)], args := [d1, d2, d3] }
  | _ => none }
def periodCoordinatesRow : OpenClaim := { program := "ytehnbdbhjeffaaagreat", sum := "be9face583ee812c95fde4687eb6452bb6c06a10e44ce706968d1a1232569053", func := "galois/galoislaw48.PeriodCoordinates", spec := "periodCoordinates", inPlace := ["math/bits.Add64", "math/bits.Sub64"], unfollowed := true, recurses := true, named := ["math/bits.divideError", "math/bits.overflowError"], apart := false }
def PeriodCoordinatesSaid : Prop := periodCoordinatesRow.holds Tryz.pinned (OpenSpec.ofChange periodCoordinatesSpec)

/-- ITS FALSE NEIGHBOUR: 'it returns false'. Refute it at one input. -/
def periodCoordinatesWrong : ChangeSpec := { name := "periodCoordinates", fn := fun _ => fun
  | [d1, d2, d3] => { results := [.lit (.bool false)], args := [d1, d2, d3] }
  | _ => none }
def PeriodCoordinatesWrongFalsely : Prop := periodCoordinatesRow.holds Tryz.pinned (OpenSpec.ofChange periodCoordinatesWrong)

/-- 'galoislaw48.PeriodTable': WHATEVER THE INPUT: true; the input reads as it did. -/
def periodTableSpec : ChangeSpec := { name := "periodTable", fn := fun _ => fun
  | [d1, d2, d3] => { results := [.lit (.bool true)], args := [d1, d2, d3] }
  | _ => none }
def periodTableRow : OpenClaim := { program := "ytehnbdbhjeffaaagreat", sum := "be9face583ee812c95fde4687eb6452bb6c06a10e44ce706968d1a1232569053", func := "galois/galoislaw48.PeriodTable", spec := "periodTable", inPlace := ["math/bits.Add64", "math/bits.Sub64"], unfollowed := true, recurses := true, named := ["math/bits.divideError", "math/bits.overflowError"], apart := false }
def PeriodTableSaid : Prop := periodTableRow.holds Tryz.pinned (OpenSpec.ofChange periodTableSpec)

/-- ITS FALSE NEIGHBOUR: 'it returns false'. Refute it at one input. -/
def periodTableWrong : ChangeSpec := { name := "periodTable", fn := fun _ => fun
  | [d1, d2, d3] => { results := [.lit (.bool false)], args := [d1, d2, d3] }
  | _ => none }
def PeriodTableWrongFalsely : Prop := periodTableRow.holds Tryz.pinned (OpenSpec.ofChange periodTableWrong)

/-- 'galoislaw48.PeriodLists': WHATEVER THE INPUT: true; the input reads as it did. -/
def periodListsSpec : ChangeSpec := { name := "periodLists", fn := fun _ => fun
  | [d1, d2, d3] => { results := [.lit (.bool true)], args := [d1, d2, d3] }
  | _ => none }
def periodListsRow : OpenClaim := { program := "ytehnbdbhjeffaaagreat", sum := "be9face583ee812c95fde4687eb6452bb6c06a10e44ce706968d1a1232569053", func := "galois/galoislaw48.PeriodLists", spec := "periodLists", inPlace := ["math/bits.Add64", "math/bits.Sub64"], unfollowed := true, recurses := true, named := ["math/bits.divideError", "math/bits.overflowError"], apart := false }
def PeriodListsSaid : Prop := periodListsRow.holds Tryz.pinned (OpenSpec.ofChange periodListsSpec)

/-- ITS FALSE NEIGHBOUR: 'it returns false'. Refute it at one input. -/
def periodListsWrong : ChangeSpec := { name := "periodLists", fn := fun _ => fun
  | [d1, d2, d3] => { results := [.lit (.bool false)], args := [d1, d2, d3] }
  | _ => none }
def PeriodListsWrongFalsely : Prop := periodListsRow.holds Tryz.pinned (OpenSpec.ofChange periodListsWrong)

/-- 'galoislaw48.PeriodGauss': WHATEVER THE INPUT: true; the input reads as it did. -/
def periodGaussSpec : ChangeSpec := { name := "periodGauss", fn := fun _ => fun
  | [d1, d2] => { results := [.lit (.bool true)], args := [d1, d2] }
  | _ => none }
def periodGaussRow : OpenClaim := { program := "ytehnbdbhjeffaaagreat", sum := "be9face583ee812c95fde4687eb6452bb6c06a10e44ce706968d1a1232569053", func := "galois/galoislaw48.PeriodGauss", spec := "periodGauss", inPlace := ["math/bits.Add64", "math/bits.Sub64"], unfollowed := true, recurses := true, named := ["math/bits.divideError", "math/bits.overflowError"], apart := false }
def PeriodGaussSaid : Prop := periodGaussRow.holds Tryz.pinned (OpenSpec.ofChange periodGaussSpec)

/-- ITS FALSE NEIGHBOUR: 'it returns false'. Refute it at one input. -/
def periodGaussWrong : ChangeSpec := { name := "periodGauss", fn := fun _ => fun
  | [d1, d2] => { results := [.lit (.bool false)], args := [d1, d2] }
  | _ => none }
def PeriodGaussWrongFalsely : Prop := periodGaussRow.holds Tryz.pinned (OpenSpec.ofChange periodGaussWrong)

/-- 'galoislaw48.PeriodFixed': WHATEVER THE INPUT: true; the input reads as it did. -/
def periodFixedSpec : ChangeSpec := { name := "periodFixed", fn := fun _ => fun
  | [d1, d2, d3] => { results := [.lit (.bool true)], args := [d1, d2, d3] }
  | _ => none }
def periodFixedRow : OpenClaim := { program := "ytehnbdbhjeffaaagreat", sum := "be9face583ee812c95fde4687eb6452bb6c06a10e44ce706968d1a1232569053", func := "galois/galoislaw48.PeriodFixed", spec := "periodFixed", inPlace := ["math/bits.Add64", "math/bits.Sub64"], unfollowed := true, recurses := true, named := ["math/bits.divideError", "math/bits.overflowError"], apart := false }
def PeriodFixedSaid : Prop := periodFixedRow.holds Tryz.pinned (OpenSpec.ofChange periodFixedSpec)

/-- ITS FALSE NEIGHBOUR: 'it returns false'. Refute it at one input. -/
def periodFixedWrong : ChangeSpec := { name := "periodFixed", fn := fun _ => fun
  | [d1, d2, d3] => { results := [.lit (.bool false)], args := [d1, d2, d3] }
  | _ => none }
def PeriodFixedWrongFalsely : Prop := periodFixedRow.holds Tryz.pinned (OpenSpec.ofChange periodFixedWrong)

/- THE SECOND FORM. 'bulk': how many values and letters a reading holds, each counted each time it is reached (what is shared counts as often as it is met; a slice's spare places count too). A statement '..UptoSaid' is the law's where the arguments, and the package variables that the reading takes, are together of bulk at most 1048576: NARROWER than '..Said'. Prove '..Said' where nothing that the law and all that it calls make is longer than what came in: it says more and counts as full. Else prove '..UptoSaid'. A law counts once. -/
mutual
def uptoBulk {H : Type} : DataW H → Nat
  | .lit (.string bytes) => bytes.length + 1
  | .lit _ => 1
  | .nil => 1
  | .ptr d => uptoBulk d + 1
  | .slice elems spare => uptoBulkAll elems + uptoBulkAll spare + 1
  | .agg parts => uptoBulkAll parts + 1
  | .iface _ d => uptoBulk d + 1
  | .map entries => uptoBulkEntries entries + 1
  | .held _ => 1
def uptoBulkAll {H : Type} : List (DataW H) → Nat
  | [] => 0
  | d :: r => uptoBulk d + uptoBulkAll r
def uptoBulkEntries {H : Type} : List (Lit × DataW H) → Nat
  | [] => 0
  | x :: r => uptoBulkEntry x + uptoBulkEntries r
def uptoBulkEntry {H : Type} : Lit × DataW H → Nat
  | (.string bytes, d) => bytes.length + uptoBulk d + 1
  | (_, d) => uptoBulk d + 1
 end
def uptoSmall : (H : Type) → List (DataW H) → Bool := fun _ ds => decide (uptoBulkAll ds ≤ 1048576)
def OpenSpec.upto (s : _root_.Go.ChangeSpec) : _root_.Go.OpenSpec := { _root_.Go.OpenSpec.ofChange s with cond := some uptoSmall }

/-- 'galoislaw48.PeriodPolynomials', WHERE WHAT IT READS IS OF BULK AT MOST 1048576: true; the input reads as it did. -/
def periodPolynomialsUptoRow : OpenClaim := { program := "ytehnbdbhjeffaaagreat", sum := "be9face583ee812c95fde4687eb6452bb6c06a10e44ce706968d1a1232569053", func := "galois/galoislaw48.PeriodPolynomials", spec := "periodPolynomials", inPlace := ["math/bits.Add64", "math/bits.Sub64"], unfollowed := true, recurses := true, named := ["math/bits.divideError", "math/bits.overflowError"], apart := false, narrowed := true }
def PeriodPolynomialsUptoSaid : Prop := periodPolynomialsUptoRow.holds Tryz.pinned (OpenSpec.upto periodPolynomialsSpec)

/-- 'galoislaw48.PeriodCoordinates', WHERE WHAT IT READS IS OF BULK AT MOST 1048576: true; the input reads as it did. -/
def periodCoordinatesUptoRow : OpenClaim := { program := "ytehnbdbhjeffaaagreat", sum := "be9face583ee812c95fde4687eb6452bb6c06a10e44ce706968d1a1232569053", func := "galois/galoislaw48.PeriodCoordinates", spec := "periodCoordinates", inPlace := ["math/bits.Add64", "math/bits.Sub64"], unfollowed := true, recurses := true, named := ["math/bits.divideError", "math/bits.overflowError"], apart := false, narrowed := true }
def PeriodCoordinatesUptoSaid : Prop := periodCoordinatesUptoRow.holds Tryz.pinned (OpenSpec.upto periodCoordinatesSpec)

/-- 'galoislaw48.PeriodTable', WHERE WHAT IT READS IS OF BULK AT MOST 1048576: true; the input reads as it did. -/
def periodTableUptoRow : OpenClaim := { program := "ytehnbdbhjeffaaagreat", sum := "be9face583ee812c95fde4687eb6452bb6c06a10e44ce706968d1a1232569053", func := "galois/galoislaw48.PeriodTable", spec := "periodTable", inPlace := ["math/bits.Add64", "math/bits.Sub64"], unfollowed := true, recurses := true, named := ["math/bits.divideError", "math/bits.overflowError"], apart := false, narrowed := true }
def PeriodTableUptoSaid : Prop := periodTableUptoRow.holds Tryz.pinned (OpenSpec.upto periodTableSpec)

/-- 'galoislaw48.PeriodLists', WHERE WHAT IT READS IS OF BULK AT MOST 1048576: true; the input reads as it did. -/
def periodListsUptoRow : OpenClaim := { program := "ytehnbdbhjeffaaagreat", sum := "be9face583ee812c95fde4687eb6452bb6c06a10e44ce706968d1a1232569053", func := "galois/galoislaw48.PeriodLists", spec := "periodLists", inPlace := ["math/bits.Add64", "math/bits.Sub64"], unfollowed := true, recurses := true, named := ["math/bits.divideError", "math/bits.overflowError"], apart := false, narrowed := true }
def PeriodListsUptoSaid : Prop := periodListsUptoRow.holds Tryz.pinned (OpenSpec.upto periodListsSpec)

/-- 'galoislaw48.PeriodGauss', WHERE WHAT IT READS IS OF BULK AT MOST 1048576: true; the input reads as it did. -/
def periodGaussUptoRow : OpenClaim := { program := "ytehnbdbhjeffaaagreat", sum := "be9face583ee812c95fde4687eb6452bb6c06a10e44ce706968d1a1232569053", func := "galois/galoislaw48.PeriodGauss", spec := "periodGauss", inPlace := ["math/bits.Add64", "math/bits.Sub64"], unfollowed := true, recurses := true, named := ["math/bits.divideError", "math/bits.overflowError"], apart := false, narrowed := true }
def PeriodGaussUptoSaid : Prop := periodGaussUptoRow.holds Tryz.pinned (OpenSpec.upto periodGaussSpec)

/-- 'galoislaw48.PeriodFixed', WHERE WHAT IT READS IS OF BULK AT MOST 1048576: true; the input reads as it did. -/
def periodFixedUptoRow : OpenClaim := { program := "ytehnbdbhjeffaaagreat", sum := "be9face583ee812c95fde4687eb6452bb6c06a10e44ce706968d1a1232569053", func := "galois/galoislaw48.PeriodFixed", spec := "periodFixed", inPlace := ["math/bits.Add64", "math/bits.Sub64"], unfollowed := true, recurses := true, named := ["math/bits.divideError", "math/bits.overflowError"], apart := false, narrowed := true }
def PeriodFixedUptoSaid : Prop := periodFixedUptoRow.holds Tryz.pinned (OpenSpec.upto periodFixedSpec)

end Rows
end Go.Proofs.YtehnbdbhjeffaaaGreat
