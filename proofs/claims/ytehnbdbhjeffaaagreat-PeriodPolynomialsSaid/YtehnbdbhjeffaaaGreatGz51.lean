/- Lists of small numbers with a sign, as arguments. -/
import Derived.Test.YtehnbdbhjeffaaaGreatGz37
set_option linter.all false
section
set_option autoImplicit false
set_option maxRecDepth 10000
namespace Gx
open Go Go.RowKit Go.Proofs
structure M8 where
 v : Int
 h1 : -128 ≤ v
 h2 : v ≤ 127
instance : Enc M8 := ⟨fun x => [.int .i8 x.v], 1, fun _ => rfl⟩
end Gx
end
