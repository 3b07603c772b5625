/- What is told by hand is as the model has it. -/
import Derived.Test.YtehnbdbhjeffaaaGreatGz5
import Derived.Test.YtehnbdbhjeffaaaGreatGz11
import Derived.Test.YtehnbdbhjeffaaaGreatGz36
import Derived.Test.YtehnbdbhjeffaaaGreatGz40
set_option linter.all false
section
set_option autoImplicit false
namespace Gx
open Go Go.Proofs
noncomputable def mdO : Md := ⟨fun g => if g = 49 then 5 else md0 g, q9o, perOrc_mono, perOrc_stab⟩
theorem wfp : q7i Tryz.prog = true := by kernel_rfl
theorem mixO : Tryz.prog.follows .mixedOrders = true := by kernel_rfl
theorem wfm : wfMd Tryz.prog mdO = true := by kernel_rfl
theorem orcOk : OrcOk Tryz.prog mdO := per_orcOk wfp mixO rfl
end Gx
end
