/- Lemmas for the row: plain facts, or contracts of functions. -/
import Derived.Test.YtehnbdbhjeffaaaGreatGz44
import Derived.Sort.Statements
set_option linter.all false
section
set_option autoImplicit false
namespace Gx
open Go Go.Proofs
set_option maxRecDepth 10000
instance : Inhabited Sd := ⟨⟨0, 0⟩⟩
end Gx
end
