/- What the mini interpreter leaves q8r. -/
import Derived.Test.YtehnbdbhjeffaaaGreatGz3
set_option linter.all false
section
set_option autoImplicit false
namespace Gx
open Go Go.RowKit

theorem Stab.refl (lk : Nat) (H : Heap) : Stab lk H H := ⟨Nat.le_refl _, fun _ _ _ => rfl⟩
theorem Stab.trans {lk : Nat} {a b c : Heap} (h : Stab lk a b) (k : Stab lk b c) : Stab lk a c :=
 ⟨Nat.le_trans h.1 k.1, fun x h1 h2 => (k.2 x h1 (Nat.lt_of_lt_of_le h2 h.1)).trans (h.2 x h1 h2)⟩
theorem Stab.push (lk : Nat) (H : Heap) (B : Blk) : Stab lk H (H ++ [B]) := ⟨by simp, fun b _ hb => by rw [List.getElem?_append_left hb]⟩
theorem Stab.set {lk : Nat} (H : Heap) {b : Nat} (hb : lk ≤ b) (B : Blk) : Stab lk H (H.set b B) := ⟨by simp, fun x hx _ => by rw [List.getElem?_set_ne (by omega)]⟩


theorem iop_stab {P : Program} {call : q0l} (hc : q1a call) {lk : Nat} {o : Op} {σ : Env} {H H' : Heap} {v : Value} (h : iop P call lk o σ H = some (v, H')) : Stab lk H H' := by
 have same : ∀ {x : Option Value}, (x.map fun v => (v, H)) = some (v, H') → Stab lk H H' := by
  intro x hx
  obtain ⟨u, _, hu⟩ := Option.map_eq_some_iff.1 hx
  simp only [Prod.mk.injEq] at hu
  obtain ⟨_, rfl⟩ := hu
  exact Stab.refl _ _
 have eq : ∀ {x : Value}, some (x, H) = some (v, H') → Stab lk H H' := by
  intro x hx
  simp only [Option.some.injEq, Prod.mk.injEq] at hx
  obtain ⟨_, rfl⟩ := hx
  exact Stab.refl _ _
 have new : ∀ {x : Value} {B : Blk}, some (x, H ++ [B]) = some (v, H') → Stab lk H H' := by
  intro x B hx
  simp only [Option.some.injEq, Prod.mk.injEq] at hx
  obtain ⟨_, rfl⟩ := hx
  exact Stab.push _ _ _
 unfold iop at h
 split at h
 ·exact eq h
 ·exact eq h
 ·split at h
  ·exact eq h
  ·simp at h
 ·split at h
  ·split at h
   ·exact new h
   ·simp at h
  ·simp at h
 ·split at h
  ·split at h
   ·exact new h
   ·simp at h
  ·simp at h
 ·exact same h
 ·unfold q2e at h
  split at h
  ·simp at h
  ·split at h
   ·split at h
    ·split at h
     ·exact new h
     ·simp at h
    ·simp at h
   ·simp at h
 ·exact same h
 ·obtain ⟨u, hu, hv⟩ := Option.map_eq_some_iff.1 h
  simp only [Prod.mk.injEq] at hv
  obtain ⟨_, rfl⟩ := hv
  unfold q3c at hu
  split at hu
  ·split at hu
   ·split at hu
    ·rename_i hcond
     injection hu with hu; subst hu
     exact Stab.set _ hcond.1 _
    ·simp at hu
   ·simp at hu
  ·simp at hu
 ·split at h
  ·exact eq h
  ·exact eq h
  ·simp at h
 ·exact same h
 ·exact same h
 ·unfold q4p at h
  split at h
  ·split at h
   ·exact eq h
   ·simp at h
  ·split at h
   ·split at h
    ·exact eq h
    ·split at h
     ·split at h
      ·split at h
       ·exact new h
       ·simp at h
      ·simp at h
     ·simp at h
   ·simp at h
  ·split at h
   ·split at h
    ·split at h
     ·obtain ⟨u, _, hu⟩ := Option.map_eq_some_iff.1 h
      simp only [Prod.mk.injEq] at hu
      obtain ⟨_, rfl⟩ := hu
      exact Stab.refl _ _
     ·simp at h
    ·simp at h
   ·simp at h
  ·simp at h
 ·split at h
  ·exact eq h
  ·simp at h
 ·unfold q4h at h
  split at h
  ·split at h
   ·simp at h
   ·split at h
    ·split at h
     ·exact new h
     ·simp at h
    ·simp at h
  ·simp at h
 ·exact same h
 ·exact same h
 ·exact same h
 ·exact same h
 ·exact same h
 ·split at h
  ·obtain ⟨u, _, hu⟩ := Option.map_eq_some_iff.1 h
   simp only [Prod.mk.injEq] at hu
   obtain ⟨_, rfl⟩ := hu
   exact Stab.refl _ _
  ·simp at h
 ·split at h
  ·split at h
   ·split at h
    ·unfold q3g at h
     split at h
     ·simp at h
     ·split at h
      ·exact hc _ _ _ _ _ _ h
      ·split at h
       ·simp at h
       ·exact same h
    ·simp at h
   ·simp at h
  ·split at h
   ·exact same h
   ·simp at h
  ·split at h
   ·exact same h
   ·simp at h
  ·split at h
   ·unfold q2u at h
    split at h
    ·split at h
     ·split at h
      ·simp at h
      ·split at h
       ·split at h
        ·split at h
         ·split at h
          ·exact eq h
          ·exact new h
         ·simp at h
        ·split at h
         ·split at h
          ·exact eq h
          ·exact new h
         ·simp at h
        ·split at h
         ·split at h
          ·rename_i hcond
           simp only [Option.some.injEq, Prod.mk.injEq] at h
           obtain ⟨_, rfl⟩ := h
           exact (Stab.set _ hcond.2.2.1 _).trans (Stab.push _ _ _)
          ·simp at h
         ·simp at h
        ·simp at h
       ·simp at h
     ·simp at h
    ·unfold q5j at h
     split at h
     ·split at h
      ·split at h
       ·simp only [Option.some.injEq, Prod.mk.injEq] at h
        obtain ⟨_, rfl⟩ := h
        exact Stab.push _ _ _
       ·simp at h
      ·simp at h
     ·simp at h
    ·simp at h
   ·simp at h
  ·split at h
   ·exact same h
   ·simp at h
  ·split at h
   ·exact same h
   ·simp at h
  ·simp at h
 ·simp at h

end Gx
end
