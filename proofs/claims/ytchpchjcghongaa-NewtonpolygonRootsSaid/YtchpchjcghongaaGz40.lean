/- More arguments of the laws. -/
import Derived.Test.YtchpchjcghongaaGz39
set_option linter.all false
set_option linter.unusedVariables false
set_option linter.unusedSimpArgs false
set_option linter.unnecessarySimpa false
set_option linter.deprecated false
section
set_option autoImplicit false
set_option maxRecDepth 10000
namespace Gx
open Go Go.RowKit Go.Proofs
theorem u8_arg {H : Heap} {v : Value} (h : WV Try.prog H 5 5 v) : ∃ n : Nat, v = .int .u8 (n : Int) ∧ n < 256 := by
  have ht : tagg Try.prog 5 = some false := by kernel_rfl
  obtain ⟨x, h1, h2⟩ := WT.int (n := 4) Try.underlying5 (h.one ht)
  simp only [Lit.wf, IntKind.min, IntKind.max, IntKind.signed, IntKind.bits] at h2
  simp at h2
  refine ⟨x.toNat, ?_, by omega⟩
  have : ((x.toNat : Nat) : Int) = x := by omega
  rw [this]; simpa using h1
end Gx
end
