/- Each operation of the mini interpreter is one of the model's. -/
import Derived.Test.YtehnbdbhjeffaaaGreatGz18
import Derived.Laws.Externs
set_option linter.all false
section
set_option autoImplicit false
namespace Gx
open Go Go.RowKit

section
variable {P : Program} {w : World}

theorem run_info {t : TypeId} {i : TypeInfo} (h : P.info? t = some i) : (typeInfo t).run P w = .ok i w := by simp [typeInfo, h]
theorem q1t {t : TypeId} {n : Nat} (h : tsz P t = some n) : (Go.sizeOf t).run P w = .ok n w := by
 unfold tsz at h
 cases hi : P.info? t with
 | none => rw [hi] at h; simp at h
 | some i => rw [hi] at h; simp at h; simp [Go.sizeOf, run_info hi, h]
theorem q7v {t : TypeId} {n : Nat} (h : q0r P t = some n) : ∃ i, (typeInfo t).run P w = .ok i w ∧ i.bytes = n := by
 unfold q0r at h
 cases hi : P.info? t with
 | none => rw [hi] at h; simp at h
 | some i => rw [hi] at h; simp at h; exact ⟨i, run_info hi, by simpa using h⟩
theorem q0v {t : TypeId} {d : TypeDesc} (h : P.underlying t = some d) : (underlying t).run P w = .ok d w := by simp [underlying, h]
theorem q2i {t e : TypeId} (h : q0z P t = some e) : P.underlying t = some (.slice e) := by
 unfold q0z at h; split at h
 ·injection h with h; subst h; assumption
 ·simp at h
theorem w1d {t e : TypeId} {n : Nat} (h : tarr P t = some (n, e)) : P.underlying t = some (.array n e) := by
 unfold tarr at h; split at h
 ·injection h with h; injection h with h1 h2; subst h1; subst h2; assumption
 ·simp at h
theorem w1c {t : TypeId} {k : IntKind} (h : tint P t = some k) : P.underlying t = some (.int k) := by
 unfold tint at h; split at h
 ·injection h with h; subst h; assumption
 ·simp at h
theorem q6u {t : TypeId} (h : tstr P t = true) : P.underlying t = some .string := by
 unfold tstr at h; split at h
 ·assumption
 ·simp at h
theorem w0b {t : TypeId} {fs : Array Field} (h : w0c P t = some fs) : P.underlying t = some (.struct fs) := by
 unfold w0c at h; split at h
 ·injection h with h; subst h; assumption
 ·simp at h
theorem tfield_iff {t : TypeId} {i off : Nat} {u : TypeId} (h : q5h P t i = some (off, u)) : ∃ fs f, P.underlying t = some (.struct fs) ∧ fs[i]? = some f ∧ f.offset = off ∧ f.type = u := by
 unfold q5h at h
 cases hf : w0c P t with
 | none => rw [hf] at h; simp at h
 | some fs =>
  rw [hf] at h
  simp at h
  obtain ⟨f, h1, h2, h3⟩ := h
  exact ⟨fs, f, w0b hf, h1, h2, h3⟩
theorem q5a {t : TypeId} {b : Bool} (h : tagg P t = some b) : (isAgg t).run P w = .ok b w := by
 unfold tagg at h
 cases hu : P.underlying t with
 | none => rw [hu] at h; simp at h
 | some d =>
  rw [hu] at h
  cases d <;> simp at h <;> subst h <;> simp [isAgg, q0v hu]

theorem q5x (μ : Inj) {t : TypeId} {zs : List Value} (h : q1x P t = some zs) : ∃ v, (zeroValue t).run P w = .ok v w ∧ v.cells.toList = zs ∧ LR μ zs v.cells.toList := by
 unfold q1x at h
 cases hi : P.info? t with
 | none => rw [hi] at h; simp at h
 | some i =>
  rw [hi] at h
  simp only [Option.bind_some] at h
  cases hz : i.zero with
  | none => rw [hz] at h; simp at h
  | some v =>
   rw [hz] at h
   simp only [Option.bind_some] at h
   split at h
   ·rename_i hk
    have hc : v.cells.toList = zs := by
     unfold q3d at h
     split at h <;> first | (simp only [Option.some.injEq] at h; rw [← h]; first | rfl | simp [Value.cells]; done) | (simp at h; done)
    refine ⟨v, by simp [zeroValue, run_info hi, hz], hc, ?_⟩
    rw [← hc]
    refine ⟨rfl, fun j u hj => ⟨u, hj, ?_⟩⟩
    have hm : u ∈ v.cells := by
     have := List.mem_of_getElem? hj
     simpa using this
    exact kok0_rel μ (Array.all_eq_true_iff_forall_mem.1 hk u hm)
   ·simp at h

theorem q3x (b o n : Nat) : (⟨b, o, none⟩ : Addr).add n = ⟨b, o + n, none⟩ := by
 unfold Addr.add
 split
 ·rename_i h; subst h; rfl
 ·rfl

theorem run_cells (w : World) (r o : Nat) (ds : List Value) (h : ∀ (j : Nat) (v : Value), ds[j]? = some v → w.cell? ⟨r, o + j, none⟩ = some v) :
  (loadCells ⟨r, o, none⟩ ds.length).run P w = .ok ds.toArray w :=
 run_loadCells_list w ⟨r, o, none⟩ ds (fun j v hj => by rw [q3x]; exact h j v hj)

theorem stretch {base lk : Nat} {μ : Inj} {H : Heap} (h : HR base lk μ H w) {b : Nat} {i : Info} {B : Blk} (hb : μ b = some i) (hB : H[b]? = some B) (hd : B.dead = false) (o n : Nat) (ho : o + n ≤ B.c.length) :
  ∃ ds, LR μ ((B.c.drop o).take n) ds ∧ ds.length = n ∧ ∀ (j : Nat) (v : Value), ds[j]? = some v → w.cell? ⟨i.r, i.o + o + j, none⟩ = some v := by
 induction n with
 | zero => exact ⟨[], by simpa using LR.nil μ, rfl, fun j v hj => by simp at hj⟩
 | succ n ih =>
  obtain ⟨ds, h1, h2, h3⟩ := ih (by omega)
  obtain ⟨v', a, c⟩ := h.cell b i B hb hB hd (o + n) (B.c[o + n]) (List.getElem?_eq_getElem (by omega))
  refine ⟨ds ++ [v'], ?_, by simp [h2], fun j v hj => ?_⟩
  ·have : (B.c.drop o).take (n + 1) = (B.c.drop o).take n ++ [B.c[o + n]] := by
    rw [List.take_add_one, List.getElem?_drop, List.getElem?_eq_getElem (by omega)]; rfl
   rw [this]
   exact h1.append (.cons c (.nil μ))
  ·by_cases hj' : j < n
   ·rw [List.getElem?_append_left (by omega)] at hj
    exact h3 j v hj
   ·rw [List.getElem?_append_right (by omega), h2] at hj
    have : j = n := by
     have := (List.getElem?_eq_some_iff.1 hj).1
     simp at this; omega
    subst this
    simp at hj
    subst hj
    rw [Nat.add_assoc]; exact a

theorem w4l {c : List Value} {o n : Nat} {l : List Value} (h : isub c o n = some l) : o + n ≤ c.length ∧ l = (c.drop o).take n := by
 unfold isub at h
 split at h
 ·injection h with h; exact ⟨by assumption, h.symm⟩
 ·simp at h

theorem VR.ptr_inv {μ : Inj} {b o : Nat} {v : Value} (h : VR μ (.pointer (some ⟨b, o, none⟩)) v) : ∃ i, μ b = some i ∧ v = .pointer (some ⟨i.r, i.o + o, none⟩) := by
 cases h with
 | one h => cases h with
  | ptr h => exact ⟨_, h, rfl⟩

theorem load_sim {base lk : Nat} {μ : Inj} {H : Heap} (h : HR base lk μ H w) {t : TypeId} {a a' v : Value} (ha : VR μ a a') (hl : q2n P H t a = some v) :
  ∃ v', (Instr.loadAt t a').run P w = .ok v' w ∧ VR μ v v' := by
 unfold q2n at hl
 split at hl
 ·rename_i b o
  obtain ⟨i, hb, rfl⟩ := ha.ptr_inv
  split at hl
  ·rename_i B n hB hn hg
   obtain ⟨hB, hd⟩ := q3w.1 hB
   cases hs : isub B.c o n with
   | none => rw [hs] at hl; simp at hl
   | some cs =>
    rw [hs] at hl; simp at hl; subst hl
    obtain ⟨h1, h2⟩ := w4l hs
    obtain ⟨ds, g1, g2, g3⟩ := stretch h hb hB hd o n h1
    refine ⟨.agg ds.toArray, ?_, VR.of_list (by simpa [h2] using g1)⟩
    have hr := run_cells (P := P) w i.r (i.o + o) ds g3
    rw [g2] at hr
    simp [Instr.loadAt, Instr.sureAddr, loadVar, q5a hg, q1t hn, hr]
  ·rename_i B n hB hn hg
   obtain ⟨hB, hd⟩ := q3w.1 hB
   obtain ⟨v', a, c⟩ := h.cell b i B hb hB hd o v hl
   exact ⟨v', by simp [Instr.loadAt, Instr.sureAddr, loadVar, q5a hg, a], .one c⟩
  ·simp at hl
 ·simp at hl

theorem store_sim {base lk : Nat} {μ : Inj} {H H' : Heap} (h : HR base lk μ H w) {t : TypeId} {a a' v v' : Value} (ha : VR μ a a') (hv : VR μ v v') (hl : q3c P lk H t a v = some H') :
  ∃ w', (Instr.storeAt t a' v').run P w = .ok () w' ∧ HR base lk μ H' w' ∧ Below base w w' := by
 unfold q3c at hl
 split at hl
 ·rename_i b o vs n hvs hn
  obtain ⟨i, hb, rfl⟩ := ha.ptr_inv
  split at hl
  ·rename_i B hB
   obtain ⟨hB, hd⟩ := q3w.1 hB
   split at hl
   ·rename_i hc
    obtain ⟨h1, h2, h3⟩ := hc
    injection hl with hl; subst hl
    have hr := w2z hv hvs
    have hown := h.own b i B hb hB hd h1
    have hlen := h.len b i B hb hB hd
    have hone : ∀ u ∈ v'.cells.toList, u.oneCell' = true := by
     intro u hu
     obtain ⟨j, hj⟩ := List.mem_iff_getElem?.1 hu
     have hj2 : j < vs.length := by rw [hr.1]; exact (List.getElem?_eq_some_iff.1 hj).1
     obtain ⟨u', a, c⟩ := hr.2 j vs[j] (by simp [hj2])
     rw [hj] at a; injection a with a; subst a
     exact c.one'
    have hrun := run_storeCells_cells (P := P) i.r (i.o + o) v'.cells.toList 0 w (fun j hj => by
      obtain ⟨u, hu⟩ := (hown.2 (o + j) (by rw [← hr.1] at hj; omega)).1
      rw [show i.o + o + 0 + j = i.o + (o + j) by omega, hu]; rfl) (fun j hj => by
      have := (hown.2 (o + j) (by rw [← hr.1] at hj; omega)).2
      rw [show i.o + o + 0 + j = i.o + (o + j) by omega]; exact this) hone
    refine ⟨w.setCells i.r (i.o + o) v'.cells.toList, ?_, h.set hb hB hd h1 o (by omega) hr, q6k _ _ hown.1 _ _ _⟩
    have hsz : v'.cells.size = n := by have := hr.1; simp at this; omega
    simp only [Nat.add_zero] at hrun
    simp [Instr.storeAt, Instr.sureAddr, storeVar, q1t hn, hsz, hrun]
   ·simp at hl
  ·simp at hl
 ·simp at hl

end
end Gx
end
