/- Polynomials with fractions as arguments of the laws. -/
import Derived.Test.YtehnbdbhjeffaaaGreatGz37
import Derived.Test.YtehnbdbhjeffaaaGreatGz42
set_option linter.all false
set_option linter.unusedVariables false
set_option linter.unusedSimpArgs false
set_option linter.unnecessarySimpa false
set_option linter.deprecated false
section
set_option autoImplicit false
set_option maxRecDepth 10000
namespace Gx
open Go Go.RowKit Go.Proofs
theorem rq_of {H : Heap} {n : Nat} (us : List Value) (hl : us.length = 3) (hw : WT Tryz.prog H (n + 3) 55 us) : ∃ x : RQ, us = Enc.enc x := by
 unfold WT at hw
 rw [Tryz.underlying55] at hw
 obtain ⟨_, h3⟩ := hw
 match us, hl with
 | [x, y, z], _ =>
  obtain ⟨k3, hk3, w3⟩ := h3 _ (by simp; exact .inl rfl)
  obtain ⟨k4, hk4, w4⟩ := h3 _ (by simp; exact .inr rfl)
  have e3 : k3 = 2 := by
   have : tsz Tryz.prog 53 = some 2 := by kernel_rfl
   rw [this] at hk3; injection hk3 with hk3; exact hk3.symm
  have e4 : k4 = 1 := by
   have : tsz Tryz.prog 51 = some 1 := by kernel_rfl
   rw [this] at hk4; injection hk4 with hk4; exact hk4.symm
  subst e3; subst e4
  simp only [List.drop_zero, List.take_succ_cons, List.take_zero, List.drop_succ_cons] at w3 w4
  unfold WT at w3 w4
  rw [Tryz.underlying53] at w3
  rw [Tryz.underlying51] at w4
  obtain ⟨d, hd, _⟩ := w4
  obtain ⟨_, h4⟩ := w3
  obtain ⟨k5, hk5, w5⟩ := h4 _ (by simp; exact .inl rfl)
  obtain ⟨k6, hk6, w6⟩ := h4 _ (by simp; exact .inr rfl)
  have e5 : k5 = 1 := by
   have : tsz Tryz.prog 4 = some 1 := by kernel_rfl
   rw [this] at hk5; injection hk5 with hk5; exact hk5.symm
  have e6 : k6 = 1 := by
   have : tsz Tryz.prog 51 = some 1 := by kernel_rfl
   rw [this] at hk6; injection hk6 with hk6; exact hk6.symm
  subst e5; subst e6
  unfold WT at w5 w6
  rw [Tryz.underlying4] at w5
  rw [Tryz.underlying51] at w6
  obtain ⟨b, hb⟩ := w5
  obtain ⟨s, hs, _⟩ := w6
  refine ⟨⟨b, s.toList, d.toList⟩, ?_⟩
  show [x, y, z] = [Value.bool b, .string (mkS s.toList), .string (mkS d.toList)]
  rw [mkS_toList, mkS_toList]
  simp at hb hs hd
  rw [hb, hs, hd]
theorem poly_arg {H : Heap} {v : Value} (h : WV Tryz.prog H 5 23 v) : ∃ (l : List RQ), LV H v l ∧ l.length ≤ maxLen := by
 have ht : tagg Tryz.prog 23 = some false := by kernel_rfl
 have hz : tsz Tryz.prog 55 = some 3 := by kernel_rfl
 obtain ⟨a, l, rfl, hs, hl⟩ := SL.of (n := 4) Tryz.underlying23 hz (fun us hl hw => rq_of (n := 1) us hl hw) (h.one ht)
 exact ⟨l, ⟨a, rfl, hs⟩, hl⟩
end Gx
end
