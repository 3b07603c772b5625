/- The arguments of the laws, as lists in memory. -/
import Derived.Test.YtehnbdbhjeffaaaGreatGz2
import Derived.Test.YtehnbdbhjeffaaaGreatGz16
import Derived.Test.YtehnbdbhjeffaaaGreatGz36
set_option linter.all false
section
set_option autoImplicit false
set_option maxRecDepth 10000
namespace Gx
open Go Go.RowKit Go.Proofs
section
variable {P : Program} {H : Heap}
theorem WT.int {n : Nat} {t : TypeId} {k : IntKind} {us : List Value} (hu : P.underlying t = some (.int k)) (h : WT P H (n + 1) t us) : ∃ x, us = [.int k x] ∧ (Lit.int k x).wf = true := by
 unfold WT at h
 rw [hu] at h
 exact h
theorem WV.one {n : Nat} {t : TypeId} {v : Value} (h : WV P H n t v) (ht : tagg P t = some false) : WT P H n t [v] := by
 rcases h with ⟨h1, _⟩ | ⟨_, h⟩
 ·rw [ht] at h1; cases h1
 ·exact h
end
theorem WVs.two {P : Program} {H : Heap} {n : Nat} {t1 t2 : TypeId} {args : List Value} (h : WVs P H n [t1, t2] args) : ∃ v x, args = [v, x] ∧ WV P H n t1 v ∧ WV P H n t2 x := by
 match args, h with
 | [v, x], ⟨h1, h2, _⟩ => exact ⟨v, x, rfl, h1, h2⟩
theorem int_arg {H : Heap} {v : Value} (h : WV Tryz.prog H 5 3 v) : ∃ x, v = .int .i64 x ∧ I64 x := by
 have ht : tagg Tryz.prog 3 = some false := by kernel_rfl
 obtain ⟨x, h1, h2⟩ := WT.int (n := 4) Tryz.underlying3 (h.one ht)
 refine ⟨x, by simpa using h1, ?_⟩
 simp only [Lit.wf, IntKind.min, IntKind.max, IntKind.signed, IntKind.bits] at h2
 simp at h2
 omega
end Gx
end
