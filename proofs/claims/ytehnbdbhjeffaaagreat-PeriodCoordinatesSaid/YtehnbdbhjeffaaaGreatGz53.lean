/- Small numbers and pairs of them, as arguments. -/
import Derived.Test.YtehnbdbhjeffaaaGreatGz37
set_option linter.all false
set_option linter.unusedVariables false
set_option linter.unusedSimpArgs false
set_option linter.unnecessarySimpa false
set_option linter.deprecated false
section
set_option autoImplicit false
set_option maxRecDepth 10000
namespace Gx
open Go Go.RowKit Go.Proofs
def U8 (x : Int) : Prop := 0 ≤ x ∧ x ≤ 255
theorem u8_wt {H : Heap} {n : Nat} {us : List Value} (h : WT Tryz.prog H (n + 1) 5 us) : ∃ x, us = [.int .u8 x] ∧ U8 x := by
 obtain ⟨x, h1, h2⟩ := WT.int Tryz.underlying5 h
 refine ⟨x, h1, ?_⟩
 simp only [Lit.wf, IntKind.min, IntKind.max, IntKind.signed, IntKind.bits] at h2
 simp at h2
 unfold U8
 omega
theorem u8_arg {H : Heap} {v : Value} (h : WV Tryz.prog H 5 5 v) : ∃ x, v = .int .u8 x ∧ U8 x := by
 have ht : tagg Tryz.prog 5 = some false := by kernel_rfl
 obtain ⟨x, h1, h2⟩ := u8_wt (n := 4) (h.one ht)
 exact ⟨x, by simpa using h1, h2⟩
theorem number_arg {H : Heap} {v : Value} (h : WV Tryz.prog H 5 58 v) : ∃ a b, v = .agg (List.toArray [.int .u8 a, .int .u8 b]) ∧ U8 a ∧ U8 b := by
 have ht : tagg Tryz.prog 58 = some true := by kernel_rfl
 have hz : tsz Tryz.prog 58 = some 2 := by kernel_rfl
 rcases h with ⟨_, us, rfl, hw⟩ | ⟨h1, _⟩
 ·unfold WT at hw
  rw [Tryz.underlying58] at hw
  obtain ⟨h1, h2⟩ := hw
  rw [hz] at h1
  injection h1 with h1
  obtain ⟨l, rfl⟩ : ∃ l : List Value, us = l.toArray := ⟨us.toList, by simp⟩
  simp only at h1 h2
  match l, h1 with
  | [x, y], _ =>
   obtain ⟨k1, hk1, w1⟩ := h2 _ (by simp; exact .inl rfl)
   obtain ⟨k2, hk2, w2⟩ := h2 _ (by simp; exact .inr rfl)
   have hu : tsz Tryz.prog 5 = some 1 := by kernel_rfl
   have e1 : k1 = 1 := by rw [hu] at hk1; injection hk1 with hk1; exact hk1.symm
   have e2 : k2 = 1 := by rw [hu] at hk2; injection hk2 with hk2; exact hk2.symm
   subst e1; subst e2
   obtain ⟨a, ha, ha2⟩ := u8_wt w1
   obtain ⟨b, hb, hb2⟩ := u8_wt w2
   simp at ha hb
   exact ⟨a, b, by rw [ha, hb], ha2, hb2⟩
 ·rw [ht] at h1; cases h1
end Gx
end
