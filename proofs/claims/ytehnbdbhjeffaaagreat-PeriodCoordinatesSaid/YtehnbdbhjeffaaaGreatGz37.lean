/- The arguments of the laws, as lists in memory. -/
import Derived.Test.YtehnbdbhjeffaaaGreatGz2
import Derived.Test.YtehnbdbhjeffaaaGreatGz16
import Derived.Test.YtehnbdbhjeffaaaGreatGz36
set_option linter.all false
set_option linter.unusedVariables false
set_option linter.unusedSimpArgs false
set_option linter.unnecessarySimpa false
set_option linter.deprecated false
section
set_option autoImplicit false
set_option maxRecDepth 10000
namespace Gx
open Go Go.RowKit Go.Proofs
section
variable {P : Program} {H : Heap}
theorem WT.slice {n : Nat} {t e : TypeId} {v : Value} (hu : P.underlying t = some (.slice e)) (h : WT P H (n + 1) t [v]) :
  v = .slice none 0 0 ∨ ∃ b len B, v = .slice (some ⟨b, 0, none⟩) len len ∧ H[b]? = some B ∧ B.dead = false ∧ tsz P e = some B.sz ∧ len ≤ maxLen ∧ B.c.length = len * B.sz ∧ ∀ i, i < len → WT P H n e ((B.c.drop (i * B.sz)).take B.sz) := by
 unfold WT at h
 rw [hu] at h
 rcases h with h | ⟨b, len, B, h, r⟩
 ·exact .inl (by simpa using h)
 ·exact .inr ⟨b, len, B, by simpa using h, r⟩
theorem WT.int {n : Nat} {t : TypeId} {k : IntKind} {us : List Value} (hu : P.underlying t = some (.int k)) (h : WT P H (n + 1) t us) : ∃ x, us = [.int k x] ∧ (Lit.int k x).wf = true := by
 unfold WT at h
 rw [hu] at h
 exact h
theorem SL.of {α : Type} [Enc α] {n : Nat} {t e : TypeId} {v : Value} (hu : P.underlying t = some (.slice e)) (hz : tsz P e = some (Enc.n α)) (he : ∀ us, us.length = Enc.n α → WT P H n e us → ∃ x : α, us = Enc.enc x) (h : WT P H (n + 1) t [v]) :
  ∃ (a : Option Addr) (l : List α), v = .slice a l.length l.length ∧ SL H a l ∧ l.length ≤ maxLen := by
 rcases WT.slice hu h with rfl | ⟨b, len, B, rfl, h1, h2, h3, h4, h5, h6⟩
 ·exact ⟨none, [], rfl, SL.nil, Nat.zero_le _⟩
 ·have hk : B.sz = Enc.n α := by rw [hz] at h3; injection h3 with h3; exact h3.symm
  rw [hk] at h5 h6
  have key : ∀ m, m ≤ len → ∃ l : List α, l.length = m ∧ B.c.take (m * Enc.n α) = cells l := by
   intro m
   induction m with
   | zero => intro _; exact ⟨[], rfl, by simp [cells]⟩
   | succ m ih =>
    intro hm
    obtain ⟨l, l1, l2⟩ := ih (by omega)
    have hle : (m + 1) * Enc.n α ≤ B.c.length := by rw [h5]; exact Nat.mul_le_mul_right _ hm
    rw [Nat.add_mul, Nat.one_mul] at hle
    obtain ⟨x, hx⟩ := he ((B.c.drop (m * Enc.n α)).take (Enc.n α)) (by rw [List.length_take, List.length_drop]; omega) (h6 m (by omega))
    refine ⟨l ++ [x], by simp [l1], ?_⟩
    rw [cells_app, ← l2, Nat.add_mul, Nat.one_mul, List.take_add, hx]
    simp [cells]
  obtain ⟨l, l1, l2⟩ := key len (Nat.le_refl _)
  refine ⟨some ⟨b, 0, none⟩, l, by rw [l1], ?_, by omega⟩
  have hl : ilive H b = some B := by unfold ilive; rw [h1]; simp [h2]
  refine .inr ⟨b, 0, B, rfl, hl, hk, by rw [l1, List.drop_zero]; exact l2, by rw [l1]; omega⟩
theorem WV.one {n : Nat} {t : TypeId} {v : Value} (h : WV P H n t v) (ht : tagg P t = some false) : WT P H n t [v] := by
 rcases h with ⟨h1, _⟩ | ⟨_, h⟩
 ·rw [ht] at h1; cases h1
 ·exact h
end
theorem WVs.two {P : Program} {H : Heap} {n : Nat} {t1 t2 : TypeId} {args : List Value} (h : WVs P H n [t1, t2] args) : ∃ v x, args = [v, x] ∧ WV P H n t1 v ∧ WV P H n t2 x := by
 match args, h with
 | [v, x], ⟨h1, h2, _⟩ => exact ⟨v, x, rfl, h1, h2⟩
theorem WVs.three {P : Program} {H : Heap} {n : Nat} {t1 t2 t3 : TypeId} {args : List Value} (h : WVs P H n [t1, t2, t3] args) : ∃ v x y, args = [v, x, y] ∧ WV P H n t1 v ∧ WV P H n t2 x ∧ WV P H n t3 y := by
 match args, h with
 | [v, x, y], ⟨h1, h2, h3, _⟩ => exact ⟨v, x, y, rfl, h1, h2, h3⟩
theorem int_arg {H : Heap} {v : Value} (h : WV Tryz.prog H 5 3 v) : ∃ x, v = .int .i64 x ∧ I64 x := by
 have ht : tagg Tryz.prog 3 = some false := by kernel_rfl
 obtain ⟨x, h1, h2⟩ := WT.int (n := 4) Tryz.underlying3 (h.one ht)
 refine ⟨x, by simpa using h1, ?_⟩
 simp only [Lit.wf, IntKind.min, IntKind.max, IntKind.signed, IntKind.bits] at h2
 simp at h2
 omega
end Gx
end
