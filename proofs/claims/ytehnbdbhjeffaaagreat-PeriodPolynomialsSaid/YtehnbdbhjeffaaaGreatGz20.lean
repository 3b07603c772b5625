/- Each operation of the mini interpreter is one of the model's: what makes memory, and addresses. -/
import Derived.Test.YtehnbdbhjeffaaaGreatGz19
set_option linter.all false
section
set_option autoImplicit false
namespace Gx
open Go Go.RowKit

theorem iput_cons (cs : List Value) (o : Nat) (c : Value) (us : List Value) (h : o + (us.length + 1) ≤ cs.length) : iput (cs.set o c) (o + 1) us = iput cs o (c :: us) := by
 unfold iput
 have e1 : (cs.set o c).take (o + 1) = cs.take o ++ [c] := by
  apply List.ext_getElem?
  intro j
  have e2 : (List.take o cs).length = o := by simp; omega
  by_cases h1 : j < o
  ·rw [List.getElem?_append_left (by omega), List.getElem?_take, if_pos (by omega), List.getElem?_take, if_pos h1, List.getElem?_set_ne (by omega)]
  ·by_cases h2 : j = o
   ·subst h2
    rw [List.getElem?_append_right (by omega), e2, List.getElem?_take, if_pos (by omega), List.getElem?_set_self (by omega)]; simp
   ·rw [List.getElem?_take, if_neg (by omega), List.getElem?_eq_none (by simp; omega)]
 have e3 : (cs.set o c).drop (o + 1 + us.length) = cs.drop (o + (c :: us).length) := by
  apply List.ext_getElem?
  intro j
  rw [List.getElem?_drop, List.getElem?_drop, List.getElem?_set_ne (by omega)]
  congr 1
  simp; omega
 rw [e1, e3]
 simp

theorem fill_fold (off : Nat) : ∀ (us : List Value) (k : Nat) (q0g : Array Value), off + k + us.length ≤ q0g.size →
  ((us.zipIdx k).foldl (fun cs (x : Value × Nat) => cs.setIfInBounds (off + x.2) x.1) q0g).toList = iput q0g.toList (off + k) us
 | [], k, q0g, h => by simp [iput]
 | c :: us, k, q0g, h => by
  simp only [List.zipIdx_cons, List.foldl_cons]
  rw [fill_fold off us (k + 1) _ (by simp at h ⊢; omega)]
  rw [Array.toList_setIfInBounds, show off + (k + 1) = off + k + 1 by omega, iput_cons _ _ _ _ (by simp at h ⊢; omega)]

section
variable {P : Program} {w : World} {base lk : Nat} {μ : Inj} {H : Heap}

def Out (P : Program) (o : Oper) (a : Act) (w : World) (v' : Value) (w' : World) : Prop :=
 (execOp a.eval o).run P w = .ok (.value v') w' ∨ ((execOp a.eval o).run P w = .ok .skip w' ∧ v' = undef)

theorem new_sim (h : HR base lk μ H w) {t : TypeId} {cs : List Value} {v' : Value} (hr : LR μ cs v'.cells.toList) (k : Nat) :
  ∃ μ', (newVar t v').run P w = .ok ⟨w.heap.size, 0, none⟩ (w.alloc (.cells v'.cells t)) ∧ Le H.length μ μ' ∧ HR base lk μ' (H ++ [⟨cs, k, false⟩]) (w.alloc (.cells v'.cells t)) ∧ Below base w (w.alloc (.cells v'.cells t)) ∧
   VR μ' (.pointer (some ⟨H.length, 0, none⟩)) (.pointer (some ⟨w.heap.size, 0, none⟩)) := by
 have hl := hr.1
 simp at hl
 have hn := h.new cs k v'.cells t (0, 0) (by omega) (by rw [List.take_of_length_le (by simp; omega)]; exact hr) (.inl (Nat.le_refl _))
 refine ⟨_, ?_, Le.ext h _, hn, (Below.refl base w).alloc h.base _, .one ?_⟩
 ·simp only [newVar, newRow, Sem.run_bind, run_newObj, Result.andThen_ok, Sem.run_pure]; rfl
 ·have : (ext μ H.length ⟨w.heap.size, 0, v'.cells.size, k⟩) H.length = some ⟨w.heap.size, 0, v'.cells.size, k⟩ := by simp [ext]
  have := VR0.ptr (μ := ext μ H.length ⟨w.heap.size, 0, v'.cells.size, k⟩) (o := 0) this
  simpa using this

theorem row_sim (h : HR base lk μ H w) {t : TypeId} {cs : List Value} {ds : Array Value} (k n c : Nat) (fz : Nat × Nat) (hl : cs.length ≤ ds.size) (hr : LR μ cs (ds.toList.take cs.length)) (hz : fz.2 ≤ fz.1 ∨ ds.size ≤ fz.1) (hn : n ≤ c) (hc : c * k ≤ ds.size) :
  ∃ μ', Le H.length μ μ' ∧ HR base lk μ' (H ++ [⟨cs, k, false⟩]) (w.alloc (.cells ds t fz)) ∧ Below base w (w.alloc (.cells ds t fz)) ∧
   VR μ' (.slice (some ⟨H.length, 0, none⟩) n n) (.slice (some ⟨w.heap.size, 0, none⟩) n c) := by
 have hn' := h.new cs k ds t fz hl hr hz
 refine ⟨_, Le.ext h _, hn', (Below.refl base w).alloc h.base _, .one ?_⟩
 have : (ext μ H.length ⟨w.heap.size, 0, ds.size, k⟩) H.length = some ⟨w.heap.size, 0, ds.size, k⟩ := by simp [ext]
 exact .sl this hn (fun _ => ⟨by simp, by simpa using hc⟩)

theorem LR.of_agg {cs : List Value} {ds : Array Value} (h : LR μ cs ds.toList) : VR μ (.agg cs.toArray) (.agg ds) := VR.of_list (by simpa using h)

def PR (μ : Inj) (ps qs : List (Nat × Value)) : Prop := ps.length = qs.length ∧ ∀ (j : Nat) (p : Nat × Value), ps[j]? = some p → ∃ v', qs[j]? = some (p.1, v') ∧ VR μ p.2 v'

theorem w4o {place : Nat → Option (Nat × Nat)} : ∀ (ps qs : List (Nat × Value)) (q0g : List Value) (rcells : Array Value) (out : List Value), PR μ ps qs → LR μ q0g rcells.toList →
  q7d place q0g ps = some out → ∃ rout, Instr.fill place rcells qs = some rout ∧ LR μ out rout.toList
 | [], qs, q0g, rcells, out, hp, hc, hf => by
  have : qs = [] := by have := hp.1; simp at this; exact List.length_eq_zero_iff.1 this.symm
  subst this
  simp only [q7d] at hf
  injection hf with hf; subst hf
  exact ⟨rcells, rfl, hc⟩
 | (i, v) :: ps, qs, q0g, rcells, out, hp, hc, hf => by
  cases qs with
  | nil => have := hp.1; simp at this
  | cons q qs =>
   obtain ⟨v', hq, hv⟩ := hp.2 0 (i, v) rfl
   simp at hq; subst hq
   have hp' : PR μ ps qs := ⟨by have := hp.1; simpa using this, fun j p hj => by simpa using hp.2 (j + 1) p (by simpa using hj)⟩
   simp only [q7d] at hf
   split at hf
   ·rename_i off size vs hpl hvs
    split at hf
    ·rename_i hsz
     have hr := w2z hv hvs
     have hrl := hr.1
     have hcl := hc.1
     simp at hrl hcl
     have key : (v'.cells.zipIdx.foldl (fun (cs : Array Value) (x : Value × Nat) => cs.setIfInBounds (off + x.2) x.1) rcells).toList = iput rcells.toList off v'.cells.toList := by
      have := fill_fold off v'.cells.toList 0 rcells (by simp; omega)
      rw [← Array.foldl_toList, Array.toList_zipIdx]
      simpa using this
     have ih := w4o ps qs _ (v'.cells.zipIdx.foldl (fun (cs : Array Value) (x : Value × Nat) => cs.setIfInBounds (off + x.2) x.1) rcells) out hp' (by rw [key]; exact hc.iput hr off) hf
     obtain ⟨rout, h1, h2⟩ := ih
     refine ⟨rout, ?_, h2⟩
     simp only [Instr.fill, hpl]
     rw [if_neg (by simp; omega)]
     exact h1
    ·simp at hf
   ·simp at hf

theorem places_run : ∀ (l : List Field) (pl : List (Nat × Nat)), (l.mapM fun f => (tsz P f.type).map fun n => (f.offset, n)) = some pl →
  (l.mapM (m := Sem) fun f => (do pure (f.offset, ← Go.sizeOf f.type) : Sem (Nat × Nat))).run P w = .ok pl w
 | [], pl, h => by simp at h; subst h; simp
 | f :: l, pl, h => by
  rw [List.mapM_cons] at h
  cases hn : tsz P f.type with
  | none => rw [hn] at h; simp at h
  | some n =>
   rw [hn] at h
   cases hl : (l.mapM fun f => (tsz P f.type).map fun n => (f.offset, n)) with
   | none => rw [hl] at h; simp at h
   | some pl' =>
    rw [hl] at h
    simp at h; subst h
    have ih := places_run l pl' hl
    rw [List.mapM_cons, Sem.run_bind, Sem.run_bind, q1t hn]
    simp only [Result.andThen_ok, Sem.run_pure, Sem.run_bind, ih]

end
end Gx
end
