/- What is proved of the calls without what is told by hand, holds with it. -/
import Derived.Test.YtehnbdbhjeffaaaGreatGz5
set_option linter.all false
section
set_option autoImplicit false
namespace Gx
open Go Go.RowKit
section
variable {P : Program} {md mdO : Md}
def MdLe (md mdO : Md) : Prop := ∀ g, md g ≠ 5 ∧ (md g ≠ 3 → mdO g = md g)
theorem wrap0_up (hm : MdLe md mdO) {c c' : q0l} (h : q3p c c') : q3p (wrap md c) (q3q mdO c') := by
 intro lk g args H r hr
 have h5 := (hm g).1
 have hr0 : q3q md c lk g args H = some r := by
  unfold wrap at hr
  split at hr
  ·rename_i hg; exact absurd hg h5
  ·exact hr
 by_cases h3 : md g = 3
 ·unfold q3q at hr0
  rw [h3] at hr0
  cases hr0
 ·have e := (hm g).2 h3
  have := wrap0_le (md := md) h _ _ _ _ _ hr0
  unfold q3q at this ⊢
  rw [e]; exact this
theorem wrap_up (hm : MdLe md mdO) {c c' : q0l} (h : q3p c c') : q3p (wrap md c) (wrap mdO c') := by
 intro lk g args H r hr
 have h0 := wrap0_up hm h _ _ _ _ _ hr
 unfold wrap
 split
 ·rename_i hg
  unfold q3q at h0
  rw [hg] at h0
  cases h0
 ·exact h0
theorem iexec_up (hm : MdLe md mdO) : ∀ (n : Nat) (lk : Nat) (c : Code) (σ : Env) (H : Heap) (r : Ex × Env × Heap), q0s P md n lk c σ H = some r → q0s P mdO n lk c σ H = some r
 | 0, lk, c, σ, H, r, h => by cases h
 | n + 1, lk, c, σ, H, r, h => by
  have ih := iexec_up hm n
  cases c with
  | skip => exact h
  | region id ops draw =>
   change (match iops P (wrap md (q1k P md n)) lk draw ops ops.toList σ H with
    | some (σ', H') => some (Ex.normal, σ', H')
    | none => none) = some r at h
   change (match iops P (wrap mdO (q1k P mdO n)) lk draw ops ops.toList σ H with
    | some (σ', H') => some (Ex.normal, σ', H')
    | none => none) = some r
   have hc : q3p (q1k P md n) (q1k P mdO n) := by
    intro lk g args H r hr
    unfold q1k at hr ⊢
    split at hr
    ·split at hr
     ·split at hr
      ·cases hr
      ·rename_i e σ' H1 hne he
       rw [ih _ _ _ _ _ he]
       cases e with
       | exit id => exact (hne id rfl).elim
       | normal => exact hr
       | ret => exact hr
      ·cases hr
     ·cases hr
    ·cases hr
   split at h
   ·rename_i hs
    rw [q3i (wrap_up hm hc) _ _ _ _ hs]; exact h
   ·cases h
  | seq a b =>
   simp only [q0s] at h ⊢
   split at h
   ·rename_i h1
    rw [ih _ _ _ _ _ h1]; exact ih _ _ _ _ _ h
   ·rename_i hne
    rw [ih _ _ _ _ _ h]
    obtain ⟨e, σ', H'⟩ := r
    cases e with
    | normal => exact (hne _ _ h).elim
    | exit id => rfl
    | ret => rfl
  | cond c a b =>
   simp only [q0s] at h ⊢
   split at h
   ·exact ih _ _ _ _ _ h
   ·cases h
  | block id a =>
   simp only [q0s] at h ⊢
   split at h
   ·rename_i h1
    rw [ih _ _ _ _ _ h1]; exact h
   ·rename_i hne
    rw [ih _ _ _ _ _ h]
    obtain ⟨e, σ', H'⟩ := r
    cases e with
    | normal => rfl
    | exit id => exact (hne _ _ _ h).elim
    | ret => rfl
  | loop a =>
   simp only [q0s] at h ⊢
   split at h
   ·rename_i h1
    rw [ih _ _ _ _ _ h1]; exact ih _ _ _ _ _ h
   ·rename_i hne
    rw [ih _ _ _ _ _ h]
    obtain ⟨e, σ', H'⟩ := r
    cases e with
    | normal => exact (hne _ _ h).elim
    | exit id => rfl
    | ret => rfl
  | exit id => exact h
  | ret => exact h
  | scope a => exact ih _ _ _ _ _ h
  | label l => exact h
  | rangeFunc f p a b => cases h
  | goto l => cases h
  | refuse s => cases h
theorem icall_up (hm : MdLe md mdO) (n : Nat) : q3p (q1k P md n) (q1k P mdO n) := by
 intro lk g args H r hr
 unfold q1k at hr ⊢
 split at hr
 ·split at hr
  ·split at hr
   ·cases hr
   ·rename_i e σ' H1 hne he
    rw [iexec_up hm _ _ _ _ _ _ he]
    cases e with
    | exit id => exact (hne id rfl).elim
    | normal => exact hr
    | ret => exact hr
   ·cases hr
  ·cases hr
 ·cases hr
theorem pcall_up (hm : MdLe md mdO) {lk : Nat} {g : FuncId} {args : List Value} {H : Heap} {r : Value × Heap} (h : w1j P md lk g args H = some r) : w1j P mdO lk g args H = some r := by
 obtain ⟨n, hn⟩ := q2o.1 h
 exact q2o.2 ⟨n, wrap_up hm (icall_up hm n) _ _ _ _ _ hn⟩
theorem q1g (hm : MdLe md mdO) {lk : Nat} {g : FuncId} {args : List Value} {H : Heap} {r : Value × Heap} (h : q0c P md lk g args H = some r) : q0c P mdO lk g args H = some r := by
 unfold q0c at h ⊢
 split at h
 ·cases h
 ·split at h
  ·rename_i hb
   simp only [hb, if_true]
   exact pcall_up hm h
  ·rename_i hb
   simp only [hb]
   exact h
end
end Gx
end
