/- Lemmas for the row: plain facts, or contracts of functions. -/
import Derived.Test.YtehnbdbhjeffaaaGreatGz39
import Derived.Sort.LotC
set_option linter.all false
set_option linter.unusedVariables false
set_option linter.unusedSimpArgs false
set_option linter.unnecessarySimpa false
set_option linter.deprecated false
section
set_option autoImplicit false
namespace Gx
open Go Go.Proofs
set_option maxRecDepth 10000
section
variable {P : Program} {md : Md} {lk : Nat} {σ : Env} {H : Heap} {Q : Ex → Env → Heap → Prop}
def Mk (J : Env → Heap → Prop) (σ : Env) (H : Heap) [Tg J] : Prop := J σ H
theorem mk {J : Env → Heap → Prop} {σ : Env} {H : Heap} (h : J σ H) : Mk J σ H := h
end
section
variable {p : Sd → Bool} {d : Array Sd} {i j : Nat}
end
end Gx
end
