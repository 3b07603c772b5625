/-
  No cell of these rows narrows 'for every input' (looked for: loops, veiled, ifaces, maps, wideKeys, modest, calm, conditions, laid).
  DERIVED. THE GIVEN ROWS OF THIS SEAT. 10 by the template 'for every input the law returns true; each argument reads behind the call as it read before'; 0 by the template 'total and deterministic' (their statements: YtchpchjcghongaaGreatTotals.lean).
  GIVEN WITH THE SEED: the statements are not yours to turn. If you find one false, say at which input.
  Laid BY PROGRAM, IN A SANDBOX (cutbox-rows.mjs): the forced cells as the released guide's own fill.sh prints them over the translation 449dd3b2425389be… (all of the seat's roots in one cut). By AI agents, Wed Nov 11 2026. No macro, syntax, notation, axiom, sorry.
-/
import Derived.Test.YtchpchjcghongaaGreatChecked
import GoSem.Claim
import GoSem.ClaimJoined
import GoSem.ClaimMapViews
import Derived.JoinedTies
import Derived.KernelRfl
namespace Go.Proofs.YtchpchjcghongaaGreat
/- THE CELL 'sum', in the pinned program and in every row, IS THE sha256 OF THE DUMP (.gsa) THAT YtchpchjcghongaaGreatProg.lean LOADS. Nothing in Lean hashes anything: it is a label: what it is worth is what the hold of that sum in a sandbox is worth. -/
noncomputable def Tryz.pinned : Pinned := { name := "ytchpchjcghongaagreat", sum := "449dd3b2425389bee6130a97e353c36f745b4f45e41f0b22493fb5edef9cd0d4", checked := Tryz.checked }
namespace Rows
def none {H : Type} : Left H := { results := [], args := [] }

/-- 'galoislaw13.NewtonpolygonTransforms': WHATEVER THE INPUT: true; the input reads as it did. -/
def newtonpolygonTransformsSpec : ChangeSpec := { name := "newtonpolygonTransforms", fn := fun _ => fun
  | [d1, d2, d3] => { results := [.lit (.bool true)], args := [d1, d2, d3] }
  | _ => none }
def newtonpolygonTransformsRow : OpenClaim := { program := "ytchpchjcghongaagreat", sum := "449dd3b2425389bee6130a97e353c36f745b4f45e41f0b22493fb5edef9cd0d4", func := "galois/galoislaw13.NewtonpolygonTransforms", spec := "newtonpolygonTransforms", inPlace := ["math/bits.Add64", "math/bits.Sub64"], unfollowed := true, recurses := true, named := ["math/bits.divideError", "math/bits.overflowError"], apart := false }
def NewtonpolygonTransformsSaid : Prop := newtonpolygonTransformsRow.holds Tryz.pinned (OpenSpec.ofChange newtonpolygonTransformsSpec)

/-- ITS FALSE NEIGHBOUR: 'it returns false'. Refute it at one input. -/
def newtonpolygonTransformsWrong : ChangeSpec := { name := "newtonpolygonTransforms", fn := fun _ => fun
  | [d1, d2, d3] => { results := [.lit (.bool false)], args := [d1, d2, d3] }
  | _ => none }
def NewtonpolygonTransformsWrongFalsely : Prop := newtonpolygonTransformsRow.holds Tryz.pinned (OpenSpec.ofChange newtonpolygonTransformsWrong)

/-- 'galoislaw13.NewtonpolygonVertices': WHATEVER THE INPUT: true; the input reads as it did. -/
def newtonpolygonVerticesSpec : ChangeSpec := { name := "newtonpolygonVertices", fn := fun _ => fun
  | [d1, d2] => { results := [.lit (.bool true)], args := [d1, d2] }
  | _ => none }
def newtonpolygonVerticesRow : OpenClaim := { program := "ytchpchjcghongaagreat", sum := "449dd3b2425389bee6130a97e353c36f745b4f45e41f0b22493fb5edef9cd0d4", func := "galois/galoislaw13.NewtonpolygonVertices", spec := "newtonpolygonVertices", inPlace := ["math/bits.Add64", "math/bits.Sub64"], unfollowed := true, recurses := true, named := ["math/bits.divideError", "math/bits.overflowError"], apart := false }
def NewtonpolygonVerticesSaid : Prop := newtonpolygonVerticesRow.holds Tryz.pinned (OpenSpec.ofChange newtonpolygonVerticesSpec)

/-- ITS FALSE NEIGHBOUR: 'it returns false'. Refute it at one input. -/
def newtonpolygonVerticesWrong : ChangeSpec := { name := "newtonpolygonVertices", fn := fun _ => fun
  | [d1, d2] => { results := [.lit (.bool false)], args := [d1, d2] }
  | _ => none }
def NewtonpolygonVerticesWrongFalsely : Prop := newtonpolygonVerticesRow.holds Tryz.pinned (OpenSpec.ofChange newtonpolygonVerticesWrong)

/-- 'galoislaw48.PeriodPolynomials': WHATEVER THE INPUT: true; the input reads as it did. -/
def periodPolynomialsSpec : ChangeSpec := { name := "periodPolynomials", fn := fun _ => fun
  | [d1, d2] => { results := [.lit (.bool true)], args := [d1, d2] }
  | _ => none }
def periodPolynomialsRow : OpenClaim := { program := "ytchpchjcghongaagreat", sum := "449dd3b2425389bee6130a97e353c36f745b4f45e41f0b22493fb5edef9cd0d4", func := "galois/galoislaw48.PeriodPolynomials", spec := "periodPolynomials", inPlace := ["math/bits.Add64", "math/bits.Sub64"], unfollowed := true, recurses := true, named := ["math/bits.divideError", "math/bits.overflowError"], apart := false }
def PeriodPolynomialsSaid : Prop := periodPolynomialsRow.holds Tryz.pinned (OpenSpec.ofChange periodPolynomialsSpec)

/-- ITS FALSE NEIGHBOUR: 'it returns false'. Refute it at one input. -/
def periodPolynomialsWrong : ChangeSpec := { name := "periodPolynomials", fn := fun _ => fun
  | [d1, d2] => { results := [.lit (.bool false)], args := [d1, d2] }
  | _ => none }
def PeriodPolynomialsWrongFalsely : Prop := periodPolynomialsRow.holds Tryz.pinned (OpenSpec.ofChange periodPolynomialsWrong)

/-- 'galoislaw48.PeriodCoordinates': WHATEVER THE INPUT: true; the input reads as it did. -/
def periodCoordinatesSpec : ChangeSpec := { name := "periodCoordinates", fn := fun _ => fun
  | [d1, d2, d3] => { results := [.lit (.bool true)], args := [d1, d2, d3] }
  | _ => none }
def periodCoordinatesRow : OpenClaim := { program := "ytchpchjcghongaagreat", sum := "449dd3b2425389bee6130a97e353c36f745b4f45e41f0b22493fb5edef9cd0d4", func := "galois/galoislaw48.PeriodCoordinates", spec := "periodCoordinates", inPlace := ["math/bits.Add64", "math/bits.Sub64"], unfollowed := true, recurses := true, named := ["math/bits.divideError", "math/bits.overflowError"], apart := false }
def PeriodCoordinatesSaid : Prop := periodCoordinatesRow.holds Tryz.pinned (OpenSpec.ofChange periodCoordinatesSpec)

/-- ITS FALSE NEIGHBOUR: 'it returns false'. Refute it at one input. -/
def periodCoordinatesWrong : ChangeSpec := { name := "periodCoordinates", fn := fun _ => fun
  | [d1, d2, d3] => { results := [.lit (.bool false)], args := [d1, d2, d3] }
  | _ => none }
def PeriodCoordinatesWrongFalsely : Prop := periodCoordinatesRow.holds Tryz.pinned (OpenSpec.ofChange periodCoordinatesWrong)

/-- 'galoislaw48.PeriodTable': WHATEVER THE INPUT: true; the input reads as it did. -/
def periodTableSpec : ChangeSpec := { name := "periodTable", fn := fun _ => fun
  | [d1, d2, d3] => { results := [.lit (.bool true)], args := [d1, d2, d3] }
  | _ => none }
def periodTableRow : OpenClaim := { program := "ytchpchjcghongaagreat", sum := "449dd3b2425389bee6130a97e353c36f745b4f45e41f0b22493fb5edef9cd0d4", func := "galois/galoislaw48.PeriodTable", spec := "periodTable", inPlace := ["math/bits.Add64", "math/bits.Sub64"], unfollowed := true, recurses := true, named := ["math/bits.divideError", "math/bits.overflowError"], apart := false }
def PeriodTableSaid : Prop := periodTableRow.holds Tryz.pinned (OpenSpec.ofChange periodTableSpec)

/-- ITS FALSE NEIGHBOUR: 'it returns false'. Refute it at one input. -/
def periodTableWrong : ChangeSpec := { name := "periodTable", fn := fun _ => fun
  | [d1, d2, d3] => { results := [.lit (.bool false)], args := [d1, d2, d3] }
  | _ => none }
def PeriodTableWrongFalsely : Prop := periodTableRow.holds Tryz.pinned (OpenSpec.ofChange periodTableWrong)

/-- 'galoislaw48.PeriodLists': WHATEVER THE INPUT: true; the input reads as it did. -/
def periodListsSpec : ChangeSpec := { name := "periodLists", fn := fun _ => fun
  | [d1, d2, d3] => { results := [.lit (.bool true)], args := [d1, d2, d3] }
  | _ => none }
def periodListsRow : OpenClaim := { program := "ytchpchjcghongaagreat", sum := "449dd3b2425389bee6130a97e353c36f745b4f45e41f0b22493fb5edef9cd0d4", func := "galois/galoislaw48.PeriodLists", spec := "periodLists", inPlace := ["math/bits.Add64", "math/bits.Sub64"], unfollowed := true, recurses := true, named := ["math/bits.divideError", "math/bits.overflowError"], apart := false }
def PeriodListsSaid : Prop := periodListsRow.holds Tryz.pinned (OpenSpec.ofChange periodListsSpec)

/-- ITS FALSE NEIGHBOUR: 'it returns false'. Refute it at one input. -/
def periodListsWrong : ChangeSpec := { name := "periodLists", fn := fun _ => fun
  | [d1, d2, d3] => { results := [.lit (.bool false)], args := [d1, d2, d3] }
  | _ => none }
def PeriodListsWrongFalsely : Prop := periodListsRow.holds Tryz.pinned (OpenSpec.ofChange periodListsWrong)

/-- 'galoislaw13.NewtonpolygonSums': WHATEVER THE INPUT: true; the input reads as it did. -/
def newtonpolygonSumsSpec : ChangeSpec := { name := "newtonpolygonSums", fn := fun _ => fun
  | [d1, d2] => { results := [.lit (.bool true)], args := [d1, d2] }
  | _ => none }
def newtonpolygonSumsRow : OpenClaim := { program := "ytchpchjcghongaagreat", sum := "449dd3b2425389bee6130a97e353c36f745b4f45e41f0b22493fb5edef9cd0d4", func := "galois/galoislaw13.NewtonpolygonSums", spec := "newtonpolygonSums", inPlace := ["math/bits.Add64", "math/bits.Sub64"], unfollowed := true, recurses := true, named := ["math/bits.divideError", "math/bits.overflowError"], apart := false }
def NewtonpolygonSumsSaid : Prop := newtonpolygonSumsRow.holds Tryz.pinned (OpenSpec.ofChange newtonpolygonSumsSpec)

/-- ITS FALSE NEIGHBOUR: 'it returns false'. Refute it at one input. -/
def newtonpolygonSumsWrong : ChangeSpec := { name := "newtonpolygonSums", fn := fun _ => fun
  | [d1, d2] => { results := [.lit (.bool false)], args := [d1, d2] }
  | _ => none }
def NewtonpolygonSumsWrongFalsely : Prop := newtonpolygonSumsRow.holds Tryz.pinned (OpenSpec.ofChange newtonpolygonSumsWrong)

/-- 'galoislaw13.NewtonpolygonDumas': WHATEVER THE INPUT: true; the input reads as it did. -/
def newtonpolygonDumasSpec : ChangeSpec := { name := "newtonpolygonDumas", fn := fun _ => fun
  | [d1, d2, d3] => { results := [.lit (.bool true)], args := [d1, d2, d3] }
  | _ => none }
def newtonpolygonDumasRow : OpenClaim := { program := "ytchpchjcghongaagreat", sum := "449dd3b2425389bee6130a97e353c36f745b4f45e41f0b22493fb5edef9cd0d4", func := "galois/galoislaw13.NewtonpolygonDumas", spec := "newtonpolygonDumas", inPlace := ["math/bits.Add64", "math/bits.Sub64"], unfollowed := true, recurses := true, named := ["math/bits.divideError", "math/bits.overflowError"], apart := false }
def NewtonpolygonDumasSaid : Prop := newtonpolygonDumasRow.holds Tryz.pinned (OpenSpec.ofChange newtonpolygonDumasSpec)

/-- ITS FALSE NEIGHBOUR: 'it returns false'. Refute it at one input. -/
def newtonpolygonDumasWrong : ChangeSpec := { name := "newtonpolygonDumas", fn := fun _ => fun
  | [d1, d2, d3] => { results := [.lit (.bool false)], args := [d1, d2, d3] }
  | _ => none }
def NewtonpolygonDumasWrongFalsely : Prop := newtonpolygonDumasRow.holds Tryz.pinned (OpenSpec.ofChange newtonpolygonDumasWrong)

/-- 'galoislaw48.PeriodGauss': WHATEVER THE INPUT: true; the input reads as it did. -/
def periodGaussSpec : ChangeSpec := { name := "periodGauss", fn := fun _ => fun
  | [d1, d2] => { results := [.lit (.bool true)], args := [d1, d2] }
  | _ => none }
def periodGaussRow : OpenClaim := { program := "ytchpchjcghongaagreat", sum := "449dd3b2425389bee6130a97e353c36f745b4f45e41f0b22493fb5edef9cd0d4", func := "galois/galoislaw48.PeriodGauss", spec := "periodGauss", inPlace := ["math/bits.Add64", "math/bits.Sub64"], unfollowed := true, recurses := true, named := ["math/bits.divideError", "math/bits.overflowError"], apart := false }
def PeriodGaussSaid : Prop := periodGaussRow.holds Tryz.pinned (OpenSpec.ofChange periodGaussSpec)

/-- ITS FALSE NEIGHBOUR: 'it returns false'. Refute it at one input. -/
def periodGaussWrong : ChangeSpec := { name := "periodGauss", fn := fun _ => fun
  | [d1, d2] => { results := [.lit (.bool false)], args := [d1, d2] }
  | _ => none }
def PeriodGaussWrongFalsely : Prop := periodGaussRow.holds Tryz.pinned (OpenSpec.ofChange periodGaussWrong)

/-- 'galoislaw48.PeriodFixed': WHATEVER THE INPUT: true; the input reads as it did. -/
def periodFixedSpec : ChangeSpec := { name := "periodFixed", fn := fun _ => fun
  | [d1, d2, d3] => { results := [.lit (.bool true)], args := [d1, d2, d3] }
  | _ => none }
def periodFixedRow : OpenClaim := { program := "ytchpchjcghongaagreat", sum := "449dd3b2425389bee6130a97e353c36f745b4f45e41f0b22493fb5edef9cd0d4", func := "galois/galoislaw48.PeriodFixed", spec := "periodFixed", inPlace := ["math/bits.Add64", "math/bits.Sub64"], unfollowed := true, recurses := true, named := ["math/bits.divideError", "math/bits.overflowError"], apart := false }
def PeriodFixedSaid : Prop := periodFixedRow.holds Tryz.pinned (OpenSpec.ofChange periodFixedSpec)

/-- ITS FALSE NEIGHBOUR: 'it returns false'. Refute it at one input. -/
def periodFixedWrong : ChangeSpec := { name := "periodFixed", fn := fun _ => fun
  | [d1, d2, d3] => { results := [.lit (.bool false)], args := [d1, d2, d3] }
  | _ => none }
def PeriodFixedWrongFalsely : Prop := periodFixedRow.holds Tryz.pinned (OpenSpec.ofChange periodFixedWrong)

/- THE SECOND FORM. 'bulk': how many values and letters a reading holds, each counted each time it is reached (what is shared counts as often as it is met; a slice's spare places count too). A statement '..UptoSaid' is the law's where the arguments, and the package variables that the reading takes, are together of bulk at most 1048576: NARROWER than '..Said'. Prove '..Said' where nothing that the law and all that it calls make is longer than what came in: it says more and counts as full. Else prove '..UptoSaid'. A law counts once. -/
mutual
def uptoBulk {H : Type} : DataW H → Nat
  | .lit (.string bytes) => bytes.length + 1
  | .lit _ => 1
  | .nil => 1
  | .ptr d => uptoBulk d + 1
  | .slice elems spare => uptoBulkAll elems + uptoBulkAll spare + 1
  | .agg parts => uptoBulkAll parts + 1
  | .iface _ d => uptoBulk d + 1
  | .map entries => uptoBulkEntries entries + 1
  | .held _ => 1
def uptoBulkAll {H : Type} : List (DataW H) → Nat
  | [] => 0
  | d :: r => uptoBulk d + uptoBulkAll r
def uptoBulkEntries {H : Type} : List (Lit × DataW H) → Nat
  | [] => 0
  | x :: r => uptoBulkEntry x + uptoBulkEntries r
def uptoBulkEntry {H : Type} : Lit × DataW H → Nat
  | (.string bytes, d) => bytes.length + uptoBulk d + 1
  | (_, d) => uptoBulk d + 1
 end
def uptoSmall : (H : Type) → List (DataW H) → Bool := fun _ ds => decide (uptoBulkAll ds ≤ 1048576)
def OpenSpec.upto (s : _root_.Go.ChangeSpec) : _root_.Go.OpenSpec := { _root_.Go.OpenSpec.ofChange s with cond := some uptoSmall }

/-- 'galoislaw13.NewtonpolygonTransforms', WHERE WHAT IT READS IS OF BULK AT MOST 1048576: true; the input reads as it did. -/
def newtonpolygonTransformsUptoRow : OpenClaim := { program := "ytchpchjcghongaagreat", sum := "449dd3b2425389bee6130a97e353c36f745b4f45e41f0b22493fb5edef9cd0d4", func := "galois/galoislaw13.NewtonpolygonTransforms", spec := "newtonpolygonTransforms", inPlace := ["math/bits.Add64", "math/bits.Sub64"], unfollowed := true, recurses := true, named := ["math/bits.divideError", "math/bits.overflowError"], apart := false, narrowed := true }
def NewtonpolygonTransformsUptoSaid : Prop := newtonpolygonTransformsUptoRow.holds Tryz.pinned (OpenSpec.upto newtonpolygonTransformsSpec)

/-- 'galoislaw13.NewtonpolygonVertices', WHERE WHAT IT READS IS OF BULK AT MOST 1048576: true; the input reads as it did. -/
def newtonpolygonVerticesUptoRow : OpenClaim := { program := "ytchpchjcghongaagreat", sum := "449dd3b2425389bee6130a97e353c36f745b4f45e41f0b22493fb5edef9cd0d4", func := "galois/galoislaw13.NewtonpolygonVertices", spec := "newtonpolygonVertices", inPlace := ["math/bits.Add64", "math/bits.Sub64"], unfollowed := true, recurses := true, named := ["math/bits.divideError", "math/bits.overflowError"], apart := false, narrowed := true }
def NewtonpolygonVerticesUptoSaid : Prop := newtonpolygonVerticesUptoRow.holds Tryz.pinned (OpenSpec.upto newtonpolygonVerticesSpec)

/-- 'galoislaw48.PeriodPolynomials', WHERE WHAT IT READS IS OF BULK AT MOST 1048576: true; the input reads as it did. -/
def periodPolynomialsUptoRow : OpenClaim := { program := "ytchpchjcghongaagreat", sum := "449dd3b2425389bee6130a97e353c36f745b4f45e41f0b22493fb5edef9cd0d4", func := "galois/galoislaw48.PeriodPolynomials", spec := "periodPolynomials", inPlace := ["math/bits.Add64", "math/bits.Sub64"], unfollowed := true, recurses := true, named := ["math/bits.divideError", "math/bits.overflowError"], apart := false, narrowed := true }
def PeriodPolynomialsUptoSaid : Prop := periodPolynomialsUptoRow.holds Tryz.pinned (OpenSpec.upto periodPolynomialsSpec)

/-- 'galoislaw48.PeriodCoordinates', WHERE WHAT IT READS IS OF BULK AT MOST 1048576: true; the input reads as it did. -/
def periodCoordinatesUptoRow : OpenClaim := { program := "ytchpchjcghongaagreat", sum := "449dd3b2425389bee6130a97e353c36f745b4f45e41f0b22493fb5edef9cd0d4", func := "galois/galoislaw48.PeriodCoordinates", spec := "periodCoordinates", inPlace := ["math/bits.Add64", "math/bits.Sub64"], unfollowed := true, recurses := true, named := ["math/bits.divideError", "math/bits.overflowError"], apart := false, narrowed := true }
def PeriodCoordinatesUptoSaid : Prop := periodCoordinatesUptoRow.holds Tryz.pinned (OpenSpec.upto periodCoordinatesSpec)

/-- 'galoislaw48.PeriodTable', WHERE WHAT IT READS IS OF BULK AT MOST 1048576: true; the input reads as it did. -/
def periodTableUptoRow : OpenClaim := { program := "ytchpchjcghongaagreat", sum := "449dd3b2425389bee6130a97e353c36f745b4f45e41f0b22493fb5edef9cd0d4", func := "galois/galoislaw48.PeriodTable", spec := "periodTable", inPlace := ["math/bits.Add64", "math/bits.Sub64"], unfollowed := true, recurses := true, named := ["math/bits.divideError", "math/bits.overflowError"], apart := false, narrowed := true }
def PeriodTableUptoSaid : Prop := periodTableUptoRow.holds Tryz.pinned (OpenSpec.upto periodTableSpec)

/-- 'galoislaw48.PeriodLists', WHERE WHAT IT READS IS OF BULK AT MOST 1048576: true; the input reads as it did. -/
def periodListsUptoRow : OpenClaim := { program := "ytchpchjcghongaagreat", sum := "449dd3b2425389bee6130a97e353c36f745b4f45e41f0b22493fb5edef9cd0d4", func := "galois/galoislaw48.PeriodLists", spec := "periodLists", inPlace := ["math/bits.Add64", "math/bits.Sub64"], unfollowed := true, recurses := true, named := ["math/bits.divideError", "math/bits.overflowError"], apart := false, narrowed := true }
def PeriodListsUptoSaid : Prop := periodListsUptoRow.holds Tryz.pinned (OpenSpec.upto periodListsSpec)

/-- 'galoislaw13.NewtonpolygonSums', WHERE WHAT IT READS IS OF BULK AT MOST 1048576: true; the input reads as it did. -/
def newtonpolygonSumsUptoRow : OpenClaim := { program := "ytchpchjcghongaagreat", sum := "449dd3b2425389bee6130a97e353c36f745b4f45e41f0b22493fb5edef9cd0d4", func := "galois/galoislaw13.NewtonpolygonSums", spec := "newtonpolygonSums", inPlace := ["math/bits.Add64", "math/bits.Sub64"], unfollowed := true, recurses := true, named := ["math/bits.divideError", "math/bits.overflowError"], apart := false, narrowed := true }
def NewtonpolygonSumsUptoSaid : Prop := newtonpolygonSumsUptoRow.holds Tryz.pinned (OpenSpec.upto newtonpolygonSumsSpec)

/-- 'galoislaw13.NewtonpolygonDumas', WHERE WHAT IT READS IS OF BULK AT MOST 1048576: true; the input reads as it did. -/
def newtonpolygonDumasUptoRow : OpenClaim := { program := "ytchpchjcghongaagreat", sum := "449dd3b2425389bee6130a97e353c36f745b4f45e41f0b22493fb5edef9cd0d4", func := "galois/galoislaw13.NewtonpolygonDumas", spec := "newtonpolygonDumas", inPlace := ["math/bits.Add64", "math/bits.Sub64"], unfollowed := true, recurses := true, named := ["math/bits.divideError", "math/bits.overflowError"], apart := false, narrowed := true }
def NewtonpolygonDumasUptoSaid : Prop := newtonpolygonDumasUptoRow.holds Tryz.pinned (OpenSpec.upto newtonpolygonDumasSpec)

/-- 'galoislaw48.PeriodGauss', WHERE WHAT IT READS IS OF BULK AT MOST 1048576: true; the input reads as it did. -/
def periodGaussUptoRow : OpenClaim := { program := "ytchpchjcghongaagreat", sum := "449dd3b2425389bee6130a97e353c36f745b4f45e41f0b22493fb5edef9cd0d4", func := "galois/galoislaw48.PeriodGauss", spec := "periodGauss", inPlace := ["math/bits.Add64", "math/bits.Sub64"], unfollowed := true, recurses := true, named := ["math/bits.divideError", "math/bits.overflowError"], apart := false, narrowed := true }
def PeriodGaussUptoSaid : Prop := periodGaussUptoRow.holds Tryz.pinned (OpenSpec.upto periodGaussSpec)

/-- 'galoislaw48.PeriodFixed', WHERE WHAT IT READS IS OF BULK AT MOST 1048576: true; the input reads as it did. -/
def periodFixedUptoRow : OpenClaim := { program := "ytchpchjcghongaagreat", sum := "449dd3b2425389bee6130a97e353c36f745b4f45e41f0b22493fb5edef9cd0d4", func := "galois/galoislaw48.PeriodFixed", spec := "periodFixed", inPlace := ["math/bits.Add64", "math/bits.Sub64"], unfollowed := true, recurses := true, named := ["math/bits.divideError", "math/bits.overflowError"], apart := false, narrowed := true }
def PeriodFixedUptoSaid : Prop := periodFixedUptoRow.holds Tryz.pinned (OpenSpec.upto periodFixedSpec)

end Rows
end Go.Proofs.YtchpchjcghongaaGreat
