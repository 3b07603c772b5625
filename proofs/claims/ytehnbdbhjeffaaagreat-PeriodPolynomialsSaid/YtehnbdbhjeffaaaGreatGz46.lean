/- Lemmas for the row: plain facts, or contracts of functions. -/
import Derived.Test.YtehnbdbhjeffaaaGreatGz45
import Derived.Sort.LotD1
set_option linter.all false
section
set_option autoImplicit false
namespace Gx
open Go Go.Proofs
set_option maxRecDepth 10000
section
variable {P : Program} {md : Md} {lk : Nat} {σ : Env} {H : Heap} {K : Env → Heap → Prop} {draw : Bool} {ops : Array Oper} {d : Option Nat} {ty : TypeId} {pos : String} {af : Array Go.Edge} {r : List Oper}
def asP : Value → Option Value
 | .pointer (some a) => some (.pointer (some a))
 | .func (.func f) first cap => some (.func (.func f) first cap)
 | _ => none
@[go_sem] theorem asP_ptr (a : Addr) : asP (.pointer (some a)) = some (.pointer (some a)) := rfl
@[go_sem ↓] theorem ro_nilCheck (x : Operand) : ROps P md lk draw ops (⟨d, .nilCheck x, ty, pos, af, none⟩ :: r) σ H K = q2s (asP (ev σ x)) fun v => ROps P md lk draw ops r (put σ d v) H K := by
 rw [q1p (x := (asP (ev σ x)).map fun v => (v, H)) (fun _ => by
  simp only [iop]; unfold asP
  split <;> simp_all), q1s]
end
end Gx
end
