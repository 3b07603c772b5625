/- More fuel, the same answer. -/
import Derived.Test.YtehnbdbhjeffaaaGreatGz3
set_option linter.all false
section
set_option autoImplicit false
namespace Gx
open Go Go.RowKit


section
variable {P : Program} {md : Md}

theorem wrap0_le {c c' : q0l} (h : q3p c c') : q3p (q3q md c) (q3q md c') := by
 intro lk g args H r hr
 unfold q3q at hr ⊢
 split at hr
 ·split at hr
  ·rename_i h0
   rw [h _ _ _ _ _ h0]; exact hr
  ·simp at hr
 ·split at hr
  ·rename_i h0
   rw [h _ _ _ _ _ h0]; exact hr
  ·simp at hr
 ·simp at hr
 ·split at hr
  ·rename_i hk
   rw [if_pos hk]
   split at hr
   ·rename_i h0
    rw [h _ _ _ _ _ h0]; exact hr
   ·simp at hr
  ·simp at hr
 ·cases hr
 ·exact h _ _ _ _ _ hr
theorem wrap_le {c c' : q0l} (h : q3p c c') : q3p (wrap md c) (wrap md c') := by
 intro lk g args H r hr
 unfold wrap at hr ⊢
 split at hr
 ·exact md.mono _ _ (wrap0_le h) _ _ _ _ _ hr
 ·exact wrap0_le h _ _ _ _ _ hr

theorem iop_le {c c' : q0l} (h : q3p c c') {lk : Nat} {o : Op} {σ : Env} {H : Heap} {r : Value × Heap} (hr : iop P c lk o σ H = some r) : iop P c' lk o σ H = some r := by
 unfold iop at hr ⊢
 split at hr <;> try exact hr
 rename_i cc
 split at hr <;> try exact hr
 rename_i f hf
 split at hr
 ·rename_i g first cap hg
  split at hr
  ·rename_i hs
   rw [if_pos hs]
   unfold q3g at hr ⊢
   split at hr
   ·simp at hr
   ·rename_i fn hfn
    split at hr
    ·rename_i hb
     rw [if_pos hb]; exact h _ _ _ _ _ hr
    ·rename_i hb
     rw [if_neg hb]; exact hr
  ·simp at hr
 ·simp at hr

theorem q3i {c c' : q0l} (h : q3p c c') {lk : Nat} {draw : Bool} {ops : Array Oper} : ∀ (l : List Oper) (σ : Env) (H : Heap) (r : Env × Heap), iops P c lk draw ops l σ H = some r → iops P c' lk draw ops l σ H = some r
 | [], σ, H, r, hr => hr
 | o :: l, σ, H, r, hr => by
  simp only [iops] at hr ⊢
  split at hr
  ·rename_i v H1 hs
   have : q4g P c' lk draw ops o σ H = some (v, H1) := by
    unfold q4g at hs ⊢
    split at hs
    ·simp at hs
    ·rename_i hw; exact hs
    ·obtain ⟨v0, h0, h1⟩ := q8e hs
     rw [iop_le h h0, Option.map_some, h1]
   rw [this]
   exact q3i h l _ _ _ hr
  ·simp at hr

theorem icall_le {n m : Nat} (h : ∀ lk c σ H r, q0s P md n lk c σ H = some r → q0s P md m lk c σ H = some r) : q3p (q1k P md n) (q1k P md m) := by
 intro lk g args H r hr
 unfold q1k at hr ⊢
 split at hr
 ·split at hr
  ·split at hr
   ·simp at hr
   ·rename_i e σ' H1 hne he
    rw [h _ _ _ _ _ he]
    cases e with
    | exit id => exact (hne id rfl).elim
    | normal => exact hr
    | ret => exact hr
   ·simp at hr
  ·simp at hr
 ·simp at hr

theorem q3b : ∀ (n m : Nat), n ≤ m → ∀ (lk : Nat) (c : Code) (σ : Env) (H : Heap) (r : Ex × Env × Heap), q0s P md n lk c σ H = some r → q0s P md m lk c σ H = some r
 | 0, _, _, lk, c, σ, H, r, h => by simp [q0s] at h
 | n + 1, 0, hnm, lk, c, σ, H, r, h => by omega
 | n + 1, m + 1, hnm, lk, c, σ, H, r, h => by
  have ih := q3b n m (by omega)
  cases c with
  | skip => exact h
  | region id ops draw =>
   change (match iops P (wrap md (q1k P md n)) lk draw ops ops.toList σ H with
    | some (σ', H') => some (Ex.normal, σ', H')
    | none => none) = some r at h
   change (match iops P (wrap md (q1k P md m)) lk draw ops ops.toList σ H with
    | some (σ', H') => some (Ex.normal, σ', H')
    | none => none) = some r
   split at h
   ·rename_i hs
    rw [q3i (wrap_le (icall_le ih)) _ _ _ _ hs]; exact h
   ·simp at h
  | seq a b =>
   simp only [q0s] at h ⊢
   split at h
   ·rename_i h1
    rw [ih _ _ _ _ _ h1]; exact ih _ _ _ _ _ h
   ·rename_i hne
    rw [ih _ _ _ _ _ h]
    obtain ⟨e, σ', H'⟩ := r
    cases e with
    | normal => exact (hne _ _ h).elim
    | exit id => rfl
    | ret => rfl
  | cond c a b =>
   simp only [q0s] at h ⊢
   split at h
   ·exact ih _ _ _ _ _ h
   ·simp at h
  | block id a =>
   simp only [q0s] at h ⊢
   split at h
   ·rename_i h1
    rw [ih _ _ _ _ _ h1]; exact h
   ·rename_i hne
    rw [ih _ _ _ _ _ h]
    obtain ⟨e, σ', H'⟩ := r
    cases e with
    | normal => rfl
    | exit id => exact (hne _ _ _ h).elim
    | ret => rfl
  | loop a =>
   simp only [q0s] at h ⊢
   split at h
   ·rename_i h1
    rw [ih _ _ _ _ _ h1]; exact ih _ _ _ _ _ h
   ·rename_i hne
    rw [ih _ _ _ _ _ h]
    obtain ⟨e, σ', H'⟩ := r
    cases e with
    | normal => exact (hne _ _ h).elim
    | exit id => rfl
    | ret => rfl
  | exit id => exact h
  | ret => exact h
  | rangeFunc f p a b => simp [q0s] at h
  | scope a => exact ih _ _ _ _ _ h
  | label l => exact h
  | goto l => simp [q0s] at h
  | refuse s => simp [q0s] at h

theorem q5k {n m : Nat} (h : n ≤ m) : q3p (wrap md (q1k P md n)) (wrap md (q1k P md m)) := wrap_le (icall_le (q3b n m h))
end
end Gx
end
