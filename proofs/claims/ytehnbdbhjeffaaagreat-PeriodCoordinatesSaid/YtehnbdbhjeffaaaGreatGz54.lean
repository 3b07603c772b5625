/- Lists of small numbers with a sign, as arguments. -/
import Derived.Test.YtehnbdbhjeffaaaGreatGz53
set_option linter.all false
set_option linter.unusedVariables false
set_option linter.unusedSimpArgs false
set_option linter.unnecessarySimpa false
set_option linter.deprecated false
section
set_option autoImplicit false
set_option maxRecDepth 10000
namespace Gx
open Go Go.RowKit Go.Proofs
structure M8 where
 v : Int
 h1 : -128 ≤ v
 h2 : v ≤ 127
instance : Enc M8 := ⟨fun x => [.int .i8 x.v], 1, fun _ => rfl⟩
theorem i8s_arg {H : Heap} {v : Value} (h : WV Tryz.prog H 5 59 v) : ∃ (a : Option Addr) (l : List M8), v = .slice a l.length l.length ∧ SL H a l ∧ l.length ≤ maxLen := by
 have ht : tagg Tryz.prog 59 = some false := by kernel_rfl
 have hz : tsz Tryz.prog 65 = some 1 := by kernel_rfl
 refine SL.of (n := 4) Tryz.underlying59 hz ?_ (h.one ht)
 intro us hl hw
 obtain ⟨x, rfl, h2⟩ := WT.int Tryz.underlying65 hw
 simp only [Lit.wf, IntKind.min, IntKind.max, IntKind.signed, IntKind.bits] at h2
 simp at h2
 exact ⟨⟨x, by omega, by omega⟩, rfl⟩
end Gx
end
