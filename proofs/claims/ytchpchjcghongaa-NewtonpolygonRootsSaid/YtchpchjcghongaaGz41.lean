/- Lists of small machine integers as arguments. -/
import Derived.Test.YtchpchjcghongaaGz40
set_option linter.all false
set_option linter.unusedVariables false
set_option linter.unusedSimpArgs false
set_option linter.unnecessarySimpa false
set_option linter.deprecated false
section
set_option autoImplicit false
set_option maxRecDepth 10000
namespace Gx
open Go Go.RowKit Go.Proofs
/-- A machine integer of 16 bits. -/
structure I16 where
  v : Int
  h : -32768 ≤ v ∧ v ≤ 32767
instance : Enc I16 := ⟨fun x => [.int .i16 x.v], 1, fun _ => rfl⟩
theorem SL.i16 {H : Heap} {a : Option Addr} {f : List I16} (h : SL H a f) (i : Nat) (hi : i < f.length) : ∃ b o B, a = some ⟨b, o, none⟩ ∧ ilive H b = some B ∧ B.sz = 1 ∧ B.c[o + i]? = some (.int .i16 f[i].v) := by
  obtain ⟨b, o, B, h1, h2, h3, h4⟩ := h.get i hi
  have := isub_get h4 0 (by show 0 < 1; decide)
  refine ⟨b, o, B, h1, h2, h3, ?_⟩
  have e : o + i * Enc.n I16 + 0 = o + i := by show o + i * 1 + 0 = o + i; omega
  rw [e] at this
  exact this
theorem i16s_arg {H : Heap} {v : Value} (h : WV Try.prog H 5 22 v) : ∃ (a : Option Addr) (f : List I16), v = .slice a f.length f.length ∧ SL H a f ∧ f.length ≤ maxLen := by
  have ht : tagg Try.prog 22 = some false := by kernel_rfl
  have hz : tsz Try.prog 28 = some 1 := by kernel_rfl
  refine SL.of (n := 4) Try.underlying22 hz ?_ (h.one ht)
  intro us hl hw
  obtain ⟨x, h1, h2⟩ := WT.int (n := 3) Try.underlying28 hw
  simp only [Lit.wf, IntKind.min, IntKind.max, IntKind.signed, IntKind.bits] at h2
  simp at h2
  exact ⟨⟨x, by omega⟩, h1⟩
end Gx
end
