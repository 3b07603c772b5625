/- Lists of sides as arguments of the laws. -/
import Derived.Test.YtchpchjcghongaaGreatGz21
import Derived.Test.YtchpchjcghongaaGreatGz42
set_option linter.all false
set_option linter.unusedVariables false
set_option linter.unusedSimpArgs false
set_option linter.unnecessarySimpa false
set_option linter.deprecated false
section
set_option autoImplicit false
set_option maxRecDepth 10000
namespace Gx
open Go Go.RowKit Go.Proofs
theorem rs_of {H : Heap} (us : List Value) (hl : us.length = 4) (hw : WT Tryz.prog H 4 41 us) : ∃ x : RS, us = Enc.enc x := by
  unfold WT at hw
  rw [Tryz.underlying41] at hw
  obtain ⟨_, h2⟩ := hw
  match us, hl with
  | [w, x, y, z], _ =>
    obtain ⟨k1, hk1, w1⟩ := h2 _ (by simp; exact .inl rfl)
    obtain ⟨k2, hk2, w2⟩ := h2 _ (by simp; exact .inr rfl)
    have e1 : k1 = 3 := by
      have : tsz Tryz.prog 39 = some 3 := by kernel_rfl
      rw [this] at hk1; injection hk1 with hk1; exact hk1.symm
    have e2 : k2 = 1 := by
      have : tsz Tryz.prog 3 = some 1 := by kernel_rfl
      rw [this] at hk2; injection hk2 with hk2; exact hk2.symm
    subst e1; subst e2
    simp only [List.drop_zero, List.take_succ_cons, List.take_zero, List.drop_succ_cons] at w1 w2
    unfold WT at w1 w2
    rw [Tryz.underlying39] at w1
    rw [Tryz.underlying3] at w2
    obtain ⟨n, hn, _⟩ := w2
    obtain ⟨_, h3⟩ := w1
    obtain ⟨k3, hk3, w3⟩ := h3 _ (by simp; exact .inl rfl)
    obtain ⟨k4, hk4, w4⟩ := h3 _ (by simp; exact .inr rfl)
    have e3 : k3 = 2 := by
      have : tsz Tryz.prog 28 = some 2 := by kernel_rfl
      rw [this] at hk3; injection hk3 with hk3; exact hk3.symm
    have e4 : k4 = 1 := by
      have : tsz Tryz.prog 26 = some 1 := by kernel_rfl
      rw [this] at hk4; injection hk4 with hk4; exact hk4.symm
    subst e3; subst e4
    simp only [List.drop_zero, List.take_succ_cons, List.take_zero, List.drop_succ_cons] at w3 w4
    unfold WT at w3 w4
    rw [Tryz.underlying28] at w3
    rw [Tryz.underlying26] at w4
    obtain ⟨d, hd, _⟩ := w4
    obtain ⟨_, h4⟩ := w3
    obtain ⟨k5, hk5, w5⟩ := h4 _ (by simp; exact .inl rfl)
    obtain ⟨k6, hk6, w6⟩ := h4 _ (by simp; exact .inr rfl)
    have e5 : k5 = 1 := by
      have : tsz Tryz.prog 4 = some 1 := by kernel_rfl
      rw [this] at hk5; injection hk5 with hk5; exact hk5.symm
    have e6 : k6 = 1 := by
      have : tsz Tryz.prog 26 = some 1 := by kernel_rfl
      rw [this] at hk6; injection hk6 with hk6; exact hk6.symm
    subst e5; subst e6
    unfold WT at w5 w6
    rw [Tryz.underlying4] at w5
    rw [Tryz.underlying26] at w6
    obtain ⟨b, hb⟩ := w5
    obtain ⟨s, hs, _⟩ := w6
    refine ⟨⟨b, s.toList, d.toList, n⟩, ?_⟩
    show [w, x, y, z] = [Value.bool b, .string (mkS s.toList), .string (mkS d.toList), .int .i64 n]
    rw [mkS_toList, mkS_toList]
    simp at hb hs hd hn
    rw [hb, hs, hd, hn]
/-- A list of sides, as it comes. -/
theorem sides_arg {H : Heap} {v : Value} (h : WV Tryz.prog H 5 32 v) : ∃ (a : Option Addr) (f : List RS), v = .slice a f.length f.length ∧ SL H a f ∧ f.length ≤ maxLen := by
  have ht : tagg Tryz.prog 32 = some false := by kernel_rfl
  have hz : tsz Tryz.prog 41 = some 4 := by kernel_rfl
  exact SL.of (n := 4) Tryz.underlying32 hz (fun us hl hw => rs_of us hl hw) (h.one ht)
end Gx
end
