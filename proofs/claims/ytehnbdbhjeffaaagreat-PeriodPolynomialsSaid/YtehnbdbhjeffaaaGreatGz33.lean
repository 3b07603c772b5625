/- Calls of which only the result is kept. -/
import Derived.Test.YtehnbdbhjeffaaaGreatGz32
set_option linter.all false
section
set_option autoImplicit false
namespace Gx
open Go Go.RowKit

theorem w1o {μ μ' : Inj} {v v' : Value} (h : VR0 μ v v') (hk : kok0 v = true) : VR0 μ' v v' := by
 cases h with
 | bool b => exact .bool b
 | int k n => exact .int k n
 | str s => exact .str s
 | nilp => exact .nilp
 | ptr h => simp [kok0] at hk
 | nils => exact .nils
 | emp => simp [kok0] at hk
 | sl h hn ha => simp [kok0] at hk
 | func hs h => simp [kok0] at hk
 | nilf => exact .nilf
 | nili => exact .nili

theorem q8f {μ μ' : Inj} {v v' : Value} (h : VR μ v v') (hk : kok1 v = true) : VR μ' v v' := by
 cases h with
 | one h =>
  refine .one (w1o h ?_)
  cases v <;> first | exact hk | cases h
 | agg hs h =>
  rename_i cs ds
  refine .agg hs fun j => ?_
  by_cases hj : j < cs.size
  ·refine w1o (h j) ?_
   have hall : cs.toList.all kok0 = true := hk
   rw [List.all_eq_true] at hall
   have : cs.getD j .nilFunc = cs[j] := by simp [hj]
   rw [this]
   exact hall _ (by simp)
  ·have e1 : cs.getD j .nilFunc = .nilFunc := by simp [hj]
   have e2 : ds.getD j .nilFunc = .nilFunc := by simp [show ¬ j < ds.size by omega]
   rw [e1, e2]; exact .nilf
 | tuple hs h => exact absurd hk (by simp [kok1, kok0])
 | junk v => exact absurd hk (by simp [kok1, kok0, Gx.junk])

theorem kokV_same {μ μ' : Inj} {v v' : Value} (h : VR μ v v') (hk : kokV v = true) : VR μ' v v' := by
 cases h with
 | one h =>
  refine q8f (.one h) ?_
  cases v <;> first | exact hk | cases h
 | agg hs h => exact q8f (.agg hs h) hk
 | tuple hs h =>
  rename_i cs ds
  refine .tuple hs fun j => ?_
  by_cases hj : j < cs.size
  ·refine q8f (h j) ?_
   have hall : cs.toList.all kok1 = true := hk
   rw [List.all_eq_true] at hall
   have : cs.getD j .nilFunc = cs[j] := by simp [hj]
   rw [this]
   exact hall _ (by simp)
  ·have e1 : cs.getD j .nilFunc = .nilFunc := by simp [hj]
   have e2 : ds.getD j .nilFunc = .nilFunc := by simp [show ¬ j < ds.size by omega]
   rw [e1, e2]; exact .one .nilf
 | junk v => exact absurd hk (by simp [kokV, kok1, kok0, Gx.junk])

theorem w2e {md : Md} {call : q0l} (hc : q1a call) : q1a (q3q md call) := by
 intro lk g args H v H' h
 unfold q3q at h
 split at h
 ·split at h
  ·split at h
   ·simp only [Option.some.injEq, Prod.mk.injEq] at h
    obtain ⟨_, rfl⟩ := h
    exact Stab.refl _ _
   ·simp at h
  ·simp at h
 ·split at h
  ·split at h
   ·simp only [Option.some.injEq, Prod.mk.injEq] at h
    obtain ⟨_, rfl⟩ := h
    exact ⟨by simp, fun b _ hb => List.getElem?_append_left hb⟩
   ·simp at h
  ·simp at h
 ·simp at h
 ·split at h
  ·split at h
   ·split at h
    ·simp only [Option.some.injEq, Prod.mk.injEq] at h
     obtain ⟨_, rfl⟩ := h
     exact ⟨by simp, fun b _ hb => List.getElem?_append_left hb⟩
    ·simp at h
   ·simp at h
  ·simp at h
 ·cases h
 ·exact hc _ _ _ _ _ _ h
theorem wrap_stab {md : Md} {call : q0l} (hc : q1a call) : q1a (wrap md call) := by
 intro lk g args H v H' h
 unfold wrap at h
 split at h
 ·exact md.stab _ (w2e hc) _ _ _ _ _ _ h
 ·exact w2e hc _ _ _ _ _ _ h

section
variable {P : Program} {base lk : Nat} {μ μ1 : Inj} {H H1 : Heap} {w w' : World}

structure Comp (base lk : Nat) (μ μ1 : Inj) (H H1 : Heap) (w' : World) (s : List Nat × List Blk) (μs : Inj) : Prop where
 le : Le H.length μ μs
 rel : HR base lk μs (H ++ s.2) w'
 src : ∀ x j, H.length ≤ x → μs x = some j → ∃ b i B, b ∈ s.1 ∧ μ1 b = some i ∧ H1[b]? = some B ∧ B.dead = false ∧ H.length ≤ b ∧ j.r = i.r ∧ i.o ≤ j.o ∧ j.o + j.ext ≤ i.o + i.ext

theorem comp_cell (hm : HR base lk μ H w) (hR : HR w.heap.size H.length μ1 H1 w') (hb : Below w.heap.size w w') (hle : Le H.length μ μ1) {s s' : List Nat × List Blk} {μs : Inj} (C : Comp base lk μ μ1 H H1 w' s μs) {v v' u : Value} (hv : VR μ1 v u)
  (h : q2f H1 H.length s v = some (v', s')) : ∃ μs', Le (H ++ s.2).length μs μs' ∧ Comp base lk μ μ1 H H1 w' s' μs' ∧ VR μs' v' u ∧ s.2.length ≤ s'.2.length := by
 unfold q2f at h
 split at h
 ·rename_i b o n m
  obtain ⟨rfl, i, a, c, rfl, hbi, hnc, ha⟩ := hv.sl_inv
  split at h
  ·rename_i hlt
   split at h
   ·simp only [Option.some.injEq, Prod.mk.injEq] at h
    obtain ⟨rfl, rfl⟩ := h
    refine ⟨μs, Le.refl _ _, C, .one (.sl (i := i) ?_ hnc ha), Nat.le_refl _⟩
    rw [C.le.2 b hlt, ← hle.2 b hlt]; exact hbi
   ·simp at h
  ·rename_i hge
   split at h
   ·rename_i B hB
    obtain ⟨hB, hd⟩ := q3w.1 hB
    split at h
    ·rename_i hc
     obtain ⟨c1, c2, c3, c4⟩ := hc
     simp only [Option.some.injEq, Prod.mk.injEq] at h
     obtain ⟨rfl, rfl⟩ := h
     have hsz := hR.sz b i B hbi hB
     have hlen := hR.len b i B hbi hB hd
     have hown := hR.own b i B hbi hB hd (by omega)
     have hat := C.rel.at ⟨i.r, i.o + o, i.ext - o, i.sz⟩ ((B.c.drop o).take (m * B.sz)) ((hR.lt b i hbi).imp id fun ⟨x, y⟩ => ⟨by simp only; omega, by simp only; omega⟩) (Nat.le_trans hm.base hown.1) (by simp; omega) (by
       intro j x hj
       have hjl : j < m * B.sz := by
        have := (List.getElem?_eq_some_iff.1 hj).1
        simp at this; omega
       rw [List.getElem?_take, if_pos hjl, List.getElem?_drop] at hj
       obtain ⟨x', g1, g2⟩ := hR.cell b i B hbi hB hd (o + j) x hj
       refine ⟨x', by simp only; rw [Nat.add_assoc]; exact g1, w1o g2 ?_⟩
       rw [List.all_eq_true] at c4
       refine c4 x (List.mem_of_getElem? (i := j) ?_)
       rw [List.getElem?_take, if_pos hjl, List.getElem?_drop]; exact hj) (by
       intro j hj
       have := hown.2 (o + j) (by simp only at hj; omega)
       simp only
       rw [Nat.add_assoc]; exact this) (by
       intro x j D hx hD hdD
       by_cases hxl : x < H.length
       ·have hx' : μ x = some j := by rw [← C.le.2 x hxl]; exact hx
        rcases hm.lt x j hx' with g | ⟨g1, g2⟩
        ·have := hown.1
         exact .inl (by simp only; omega)
        ·exact .inr (.inl (by simp only; omega))
       ·obtain ⟨b', i', B', g1, g2, g3, g4, g5, g6, g7, g8⟩ := C.src x j (by omega) hx
        have hne : b' ≠ b := by
         rintro rfl
         have : s.1.contains b' = true := by simpa using g1
         rw [c3] at this; simp at this
        rcases hR.disj b' b i' i B' B hne g2 hbi g3 hB g4 hd g5 with k | k | k
        ·exact .inl (by simp only; omega)
        ·exact .inr (.inl (by simp only; omega))
        ·exact .inr (.inr (by simp only; omega)))
     rw [show i.sz = B.sz from hsz.symm] at hat
     have hext := Le.ext C.rel ⟨i.r, i.o + o, i.ext - o, B.sz⟩
     refine ⟨_, hext, ⟨C.le.trans hext (by simp), by rw [← List.append_assoc]; exact hat, ?_⟩, ?_, by simp⟩
     ·intro x j hx hj
      unfold ext at hj
      split at hj
      ·injection hj with hj; subst hj
       exact ⟨b, i, B, by simp, hbi, hB, hd, by omega, rfl, by simp only; omega, by simp only; omega⟩
      ·obtain ⟨b', i', B', g1, g⟩ := C.src x j hx hj
       exact ⟨b', i', B', by simp [g1], g⟩
     ·refine .one (.sl (i := ⟨i.r, i.o + o, i.ext - o, B.sz⟩) (by simp [ext]) hnc fun hc0 => ?_)
      obtain ⟨k1, k2⟩ := ha hc0
      exact ⟨by rw [k1]; simp, by simp only; rw [hsz]; omega⟩
    ·simp at h
   ·simp at h
 ·rename_i hne
  split at h
  ·rename_i hk
   simp only [Option.some.injEq, Prod.mk.injEq] at h
   obtain ⟨rfl, rfl⟩ := h
   refine ⟨μs, Le.refl _ _, C, ?_, Nat.le_refl _⟩
   refine q8f hv ?_
   cases v <;> first | exact hk | simp [kok0] at hk
  ·simp at h

theorem comp_cells (hm : HR base lk μ H w) (hR : HR w.heap.size H.length μ1 H1 w') (hb : Below w.heap.size w w') (hle : Le H.length μ μ1) : ∀ (vs us : List Value) (s s' : List Nat × List Blk) (μs : Inj) (vs' : List Value), Comp base lk μ μ1 H H1 w' s μs → LR μ1 vs us →
  q8k H1 H.length s vs = some (vs', s') → ∃ μs', Le (H ++ s.2).length μs μs' ∧ Comp base lk μ μ1 H H1 w' s' μs' ∧ LR μs' vs' us ∧ s.2.length ≤ s'.2.length
 | [], us, s, s', μs, vs', C, hr, h => by
  simp only [q8k, Option.some.injEq, Prod.mk.injEq] at h
  obtain ⟨rfl, rfl⟩ := h
  have : us = [] := by have := hr.1; simp at this; exact List.length_eq_zero_iff.1 this.symm
  subst this
  exact ⟨μs, Le.refl _ _, C, LR.nil _, Nat.le_refl _⟩
 | v :: vs, [], s, s', μs, vs', C, hr, h => by have := hr.1; simp at this
 | v :: vs, u :: us, s, s', μs, vs', C, hr, h => by
  simp only [q8k] at h
  split at h
  ·rename_i v1 s1 hv
   split at h
   ·rename_i r1 s2 hrs
    simp only [Option.some.injEq, Prod.mk.injEq] at h
    obtain ⟨rfl, rfl⟩ := h
    obtain ⟨u', e1, e2⟩ := hr.2 0 v rfl
    simp at e1; subst e1
    have hr' : LR μ1 vs us := ⟨by have := hr.1; simpa using this, fun j x hj => by simpa using hr.2 (j + 1) x (by simpa using hj)⟩
    obtain ⟨μa, a1, a2, a3, a4⟩ := comp_cell hm hR hb hle C (.one e2) hv
    obtain ⟨μb, b1, b2, b3, b4⟩ := comp_cells hm hR hb hle vs us s1 s2 μa r1 a2 hr' hrs
    refine ⟨μb, a1.trans b1 (by simp; omega), b2, .cons ?_ b3, by omega⟩
    have hv1 : VR0 μa v1 u := by
     unfold q2f at hv
     split at hv
     ·split at hv
      ·split at hv
       ·simp only [Option.some.injEq, Prod.mk.injEq] at hv
        obtain ⟨rfl, _⟩ := hv
        exact a3.zero_of (by simp [junk]) (by simp) (by simp)
       ·simp at hv
      ·split at hv
       ·split at hv
        ·simp only [Option.some.injEq, Prod.mk.injEq] at hv
         obtain ⟨rfl, _⟩ := hv
         exact a3.zero_of (by simp [junk]) (by simp) (by simp)
        ·simp at hv
       ·simp at hv
     ·split at hv
      ·rename_i hk
       simp only [Option.some.injEq, Prod.mk.injEq] at hv
       obtain ⟨rfl, _⟩ := hv
       exact w1o e2 hk
      ·simp at hv
    exact hv1.mono b1
   ·simp at h
  ·simp at h

theorem comp_1 (hm : HR base lk μ H w) (hR : HR w.heap.size H.length μ1 H1 w') (hb : Below w.heap.size w w') (hle : Le H.length μ μ1) {s s' : List Nat × List Blk} {μs : Inj} (C : Comp base lk μ μ1 H H1 w' s μs) {v v' u : Value} (hv : VR μ1 v u)
  (h : w1w H1 H.length s v = some (v', s')) : ∃ μs', Le (H ++ s.2).length μs μs' ∧ Comp base lk μ μ1 H H1 w' s' μs' ∧ VR μs' v' u ∧ s.2.length ≤ s'.2.length := by
 unfold w1w at h
 split at h
 ·rename_i cs
  obtain ⟨x, hx, he⟩ := Option.map_eq_some_iff.1 h
  obtain ⟨vs', s1⟩ := x
  simp only [Prod.mk.injEq] at he
  obtain ⟨rfl, rfl⟩ := he
  obtain ⟨ds, rfl, hr⟩ := hv.agg_iff
  obtain ⟨μs', a1, a2, a3, a4⟩ := comp_cells hm hR hb hle _ _ _ _ _ _ C hr hx
  exact ⟨μs', a1, a2, VR.of_list (by simpa using a3), a4⟩
 ·exact comp_cell hm hR hb hle C hv h

theorem comp_list (hm : HR base lk μ H w) (hR : HR w.heap.size H.length μ1 H1 w') (hb : Below w.heap.size w w') (hle : Le H.length μ μ1) : ∀ (vs us : List Value) (s s' : List Nat × List Blk) (μs : Inj) (vs' : List Value), Comp base lk μ μ1 H H1 w' s μs → vs.length = us.length →
  (∀ j, VR μ1 (vs.getD j .nilFunc) (us.getD j .nilFunc)) → q6d H1 H.length s vs = some (vs', s') →
  ∃ μs', Le (H ++ s.2).length μs μs' ∧ Comp base lk μ μ1 H H1 w' s' μs' ∧ vs'.length = us.length ∧ (∀ j, VR μs' (vs'.getD j .nilFunc) (us.getD j .nilFunc)) ∧ s.2.length ≤ s'.2.length
 | [], us, s, s', μs, vs', C, hl, hr, h => by
  simp only [q6d, Option.some.injEq, Prod.mk.injEq] at h
  obtain ⟨rfl, rfl⟩ := h
  have : us = [] := List.length_eq_zero_iff.1 hl.symm
  subst this
  exact ⟨μs, Le.refl _ _, C, rfl, fun j => .one (by simpa using VR0.nilf), Nat.le_refl _⟩
 | v :: vs, [], s, s', μs, vs', C, hl, hr, h => by simp at hl
 | v :: vs, u :: us, s, s', μs, vs', C, hl, hr, h => by
  simp only [q6d] at h
  split at h
  ·rename_i v1 s1 hv
   split at h
   ·rename_i r1 s2 hrs
    simp only [Option.some.injEq, Prod.mk.injEq] at h
    obtain ⟨rfl, rfl⟩ := h
    obtain ⟨μa, a1, a2, a3, a4⟩ := comp_1 hm hR hb hle C (by simpa using hr 0) hv
    obtain ⟨μb, b1, b2, b3, b5, b4⟩ := comp_list hm hR hb hle vs us s1 s2 μa r1 a2 (by simpa using hl) (fun j => by simpa using hr (j + 1)) hrs
    refine ⟨μb, a1.trans b1 (by simp; omega), b2, by simp [b3], fun j => ?_, by omega⟩
    cases j with
    | zero => simpa using a3.mono b1
    | succ j => simpa using b5 j
   ·simp at h
  ·simp at h

theorem comp_v (hm : HR base lk μ H w) (hR : HR w.heap.size H.length μ1 H1 w') (hb : Below w.heap.size w w') (hle : Le H.length μ μ1) {v v' u : Value} {N : List Blk} (hv : VR μ1 v u) (h : q4i H1 H.length v = some (v', N)) :
  ∃ μs, Le H.length μ μs ∧ HR base lk μs (H ++ N) w' ∧ VR μs v' u := by
 have C0 : Comp base lk μ μ1 H H1 w' ([], []) μ := ⟨Le.refl _ _, by simpa using hm.below hb, fun x j hx hj => absurd (hm.dom x j hj) (by omega)⟩
 unfold q4i at h
 split at h
 ·rename_i vs
  obtain ⟨x, hx, he⟩ := Option.map_eq_some_iff.1 h
  obtain ⟨vs', s1⟩ := x
  simp only [Prod.mk.injEq] at he
  obtain ⟨rfl, rfl⟩ := he
  have ht : ∃ ds, u = .tuple ds ∧ vs.size = ds.size ∧ ∀ j, VR μ1 (vs.getD j .nilFunc) (ds.getD j .nilFunc) := by
   cases hv with
   | one h => cases h
   | tuple hs h => exact ⟨_, rfl, hs, h⟩
  obtain ⟨ds, rfl, hs, hj⟩ := ht
  obtain ⟨μs', a1, a2, a3, a5, a4⟩ := comp_list hm hR hb hle vs.toList ds.toList _ _ _ _ C0 (by simpa using hs) (fun j => by have := hj j; simpa using this) hx
  refine ⟨μs', a2.le, a2.rel, .tuple (by simpa using a3) fun j => ?_⟩
  have := a5 j
  simpa using this
 ·obtain ⟨x, hx, he⟩ := Option.map_eq_some_iff.1 h
  obtain ⟨v1, s1⟩ := x
  simp only [Prod.mk.injEq] at he
  obtain ⟨rfl, rfl⟩ := he
  obtain ⟨μs', a1, a2, a3, a4⟩ := comp_1 hm hR hb hle C0 hv hx
  exact ⟨μs', a2.le, a2.rel, a3⟩

theorem kidx_some : ∀ {ks : List Nat} {b j : Nat}, kidx ks b = some j → ks[j]? = some b
 | [], b, j, h => by cases h
 | k :: ks, b, j, h => by
  simp only [kidx] at h
  cases hb : Nat.beq k b with
  | true =>
   rw [hb] at h
   simp only [cond_true, Option.some.injEq] at h
   subst h
   simpa using Nat.eq_of_beq_eq_true hb
  | false =>
   rw [hb] at h
   simp only [cond_false] at h
   obtain ⟨i, hi, rfl⟩ := Option.map_eq_some_iff.1 h
   simpa using kidx_some hi
def glue (n0 : Nat) (ks : List Nat) (μ μ1 : Inj) : Inj := fun b => if b < n0 then μ b else (ks[b - n0]?).bind μ1
theorem glue_new {n0 : Nat} {ks : List Nat} {μ μ1 : Inj} {b j : Nat} (h : kidx ks b = some j) : glue n0 ks μ μ1 (n0 + j) = μ1 b := by
 unfold glue
 rw [if_neg (by omega), Nat.add_sub_cancel_left, kidx_some h]; rfl
theorem ren0_rel {n0 : Nat} {ks : List Nat} {μ μ1 : Inj} {v v' u : Value} (h : VR0 μ1 v u) (hr : ren0 ks n0 v = some v') : VR0 (glue n0 ks μ μ1) v' u := by
 cases h with
 | ptr hb =>
  simp only [ren0] at hr
  obtain ⟨j, hj, rfl⟩ := Option.map_eq_some_iff.1 hr
  exact .ptr (by rw [glue_new hj]; exact hb)
 | sl hb hn ha =>
  simp only [ren0, if_true] at hr
  obtain ⟨j, hj, rfl⟩ := Option.map_eq_some_iff.1 hr
  exact .sl (by rw [glue_new hj]; exact hb) hn ha
 | func hs h => simp [ren0, kok0] at hr
 | bool b => simp [ren0, kok0] at hr; subst hr; exact .bool b
 | int k n => simp [ren0, kok0] at hr; subst hr; exact .int k n
 | str s => simp [ren0, kok0] at hr; subst hr; exact .str s
 | nilp => simp [ren0, kok0] at hr; subst hr; exact .nilp
 | nils => simp [ren0, kok0] at hr; subst hr; exact .nils
 | emp => simp [ren0, kok0] at hr
 | nilf => simp [ren0, kok0] at hr; subst hr; exact .nilf
 | nili => simp [ren0, kok0] at hr; subst hr; exact .nili
theorem renL_rel {n0 : Nat} {ks : List Nat} {μ μ1 : Inj} : ∀ {cs cs' ds : List Value}, LR μ1 cs ds → renL ks n0 cs = some cs' → LR (glue n0 ks μ μ1) cs' ds
 | [], cs', ds, h, hr => by
  simp only [renL, Option.some.injEq] at hr; subst hr
  have : ds = [] := List.length_eq_zero_iff.1 h.1.symm
  subst this; exact .nil _
 | v :: r, cs', [], h, hr => by have := h.1; simp at this
 | v :: r, cs', d :: ds, h, hr => by
  simp only [renL] at hr
  split at hr
  ·rename_i v' r' hv hr'
   simp only [Option.some.injEq] at hr; subst hr
   obtain ⟨d', e1, e2⟩ := h.2 0 v rfl
   simp at e1; subst e1
   exact .cons (ren0_rel e2 hv) (renL_rel ⟨by have := h.1; simpa using this, fun j x hj => by simpa using h.2 (j + 1) x (by simpa using hj)⟩ hr')
  ·cases hr
theorem ren1_rel {n0 : Nat} {ks : List Nat} {μ μ1 : Inj} {v v' u : Value} (h : VR μ1 v u) (hr : ren1 ks n0 v = some v') : VR (glue n0 ks μ μ1) v' u := by
 cases h with
 | one h =>
  refine .one (ren0_rel h ?_)
  cases v <;> first | exact hr | cases h
 | agg hs h =>
  obtain ⟨ds, e, hl⟩ := VR.agg_iff (VR.agg hs h)
  injection e with e; subst e
  simp only [ren1] at hr
  obtain ⟨l, hl', rfl⟩ := Option.map_eq_some_iff.1 hr
  exact VR.of_list (by simpa using renL_rel hl hl')
 | tuple hs h => simp [ren1, ren0, kok0] at hr
 | junk v => simp [ren1, ren0, kok0, Gx.junk] at hr
theorem ren1L_rel {n0 : Nat} {ks : List Nat} {μ μ1 : Inj} : ∀ {vs vs' us : List Value}, vs.length = us.length → (∀ j, VR μ1 (vs.getD j .nilFunc) (us.getD j .nilFunc)) → ren1L ks n0 vs = some vs' →
  vs'.length = us.length ∧ ∀ j, VR (glue n0 ks μ μ1) (vs'.getD j .nilFunc) (us.getD j .nilFunc)
 | [], vs', us, hl, h, hr => by
  simp only [ren1L, Option.some.injEq] at hr; subst hr
  exact ⟨hl, fun j => by
   have : us = [] := List.length_eq_zero_iff.1 hl.symm
   subst this; exact .one (by simpa using VR0.nilf)⟩
 | v :: r, vs', [], hl, h, hr => by simp at hl
 | v :: r, vs', u :: us, hl, h, hr => by
  simp only [ren1L] at hr
  split at hr
  ·rename_i v' r' hv hr'
   simp only [Option.some.injEq] at hr; subst hr
   have a1 := ren1_rel (μ := μ) (by simpa using h 0) hv
   obtain ⟨a2, a3⟩ := ren1L_rel (μ := μ) (vs := r) (us := us) (by simpa using hl) (fun j => by simpa using h (j + 1)) hr'
   refine ⟨by simp [a2], fun j => ?_⟩
   cases j with
   | zero => simpa using a1
   | succ j => simpa using a3 j
  ·cases hr
theorem renV_rel {n0 : Nat} {ks : List Nat} {μ μ1 : Inj} {v v' u : Value} (h : VR μ1 v u) (hr : renV ks n0 v = some v') : VR (glue n0 ks μ μ1) v' u := by
 cases h with
 | one h =>
  refine ren1_rel (.one h) ?_
  cases v <;> first | exact hr | cases h
 | agg hs h => exact ren1_rel (.agg hs h) hr
 | tuple hs h =>
  rename_i cs ds
  simp only [renV] at hr
  obtain ⟨l, hl', rfl⟩ := Option.map_eq_some_iff.1 hr
  obtain ⟨a1, a2⟩ := ren1L_rel (μ := μ) (vs := cs.toList) (us := ds.toList) (by simpa using hs) (fun j => by have := h j; simpa using this) hl'
  exact .tuple (by simpa using a1) fun j => by have := a2 j; simpa using this
 | junk v => simp [renV, ren1, ren0, kok0, Gx.junk] at hr
theorem renB_get {H' : Heap} {ks0 : List Nat} {n0 : Nat} : ∀ {ks : List Nat} {N : List Blk}, renB H' ks0 n0 ks = some N → N.length = ks.length ∧ ∀ (j k : Nat), ks[j]? = some k → ∃ B c, H'[k]? = some B ∧ B.dead = false ∧ renL ks0 n0 B.c = some c ∧ N[j]? = some ⟨c, B.sz, false⟩
 | [], N, h => by simp only [renB, Option.some.injEq] at h; subst h; exact ⟨rfl, fun j k hj => by simp at hj⟩
 | k :: ks, N, h => by
  simp only [renB] at h
  split at h
  ·rename_i B r hB hr
   obtain ⟨c, hc, rfl⟩ := Option.map_eq_some_iff.1 h
   obtain ⟨a1, a2⟩ := renB_get hr
   obtain ⟨hB, hd⟩ := q3w.1 hB
   refine ⟨by simp [a1], fun j k' hj => ?_⟩
   cases j with
   | zero => simp at hj; subst hj; exact ⟨B, c, hB, hd, hc, rfl⟩
   | succ j => simpa using a2 j k' (by simpa using hj)
  ·cases h
theorem nodupN_inj : ∀ {ks : List Nat}, nodupN ks = true → ∀ (i j k : Nat), ks[i]? = some k → ks[j]? = some k → i = j
 | [], h, i, j, k, hi, hj => by simp at hi
 | a :: ks, h, i, j, k, hi, hj => by
  simp only [nodupN, Bool.and_eq_true, Bool.not_eq_true'] at h
  have hn : ∀ i : Nat, ks[i]? ≠ some a := by
   intro i hi
   have := List.mem_of_getElem? hi
   have h2 := h.1
   simp [this] at h2
  cases i with
  | zero =>
   simp at hi; subst hi
   cases j with
   | zero => rfl
   | succ j => exact absurd (by simpa using hj) (hn j)
  | succ i =>
   cases j with
   | zero => simp at hj; subst hj; exact absurd (by simpa using hi) (hn i)
   | succ j => rw [nodupN_inj h.2 i j k (by simpa using hi) (by simpa using hj)]
theorem close_ok (hm : HR base lk μ H w) (hR : HR w.heap.size 0 μ1 H1 w') (hb : Below w.heap.size w w') {v v' u : Value} {N : List Blk} (hv : VR μ1 v u) (h : closeV H.length v H1 = some (v', N)) :
  ∃ μs, Le H.length μ μs ∧ HR base lk μs (H ++ N) w' ∧ VR μs v' u := by
 unfold closeV at h
 simp only at h
 generalize reachB H1 100000 (namesB (valCellsV v)) [] = ks at h
 cases hn : nodupN ks with
 | false => rw [hn] at h; cases h
 | true =>
  rw [hn] at h
  simp only [cond_true] at h
  split at h
  ·rename_i v1 N1 hv1 hN
   simp only [Option.some.injEq, Prod.mk.injEq] at h
   obtain ⟨rfl, rfl⟩ := h
   obtain ⟨hlen, hget⟩ := renB_get hN
   have hw := hm.below hb
   have old : ∀ {b}, b < H.length → glue H.length ks μ μ1 b = μ b := fun hb => by unfold glue; rw [if_pos hb]
   have new : ∀ {b i}, ¬ b < H.length → glue H.length ks μ μ1 b = some i → ∃ k, ks[b - H.length]? = some k ∧ μ1 k = some i := fun hb h => by
    unfold glue at h; rw [if_neg hb] at h; exact Option.bind_eq_some_iff.1 h
   have hold : ∀ {b}, b < H.length → (H ++ N1)[b]? = H[b]? := fun hb => List.getElem?_append_left hb
   have hnew : ∀ {b B}, ¬ b < H.length → (H ++ N1)[b]? = some B → ∀ k, ks[b - H.length]? = some k → ∃ B0, H1[k]? = some B0 ∧ B0.dead = false ∧ renL ks H.length B0.c = some B.c ∧ B0.sz = B.sz ∧ B.dead = false := fun hb hB k hk => by
    rw [List.getElem?_append_right (by omega)] at hB
    obtain ⟨B0, c, g1, g2, g3, g4⟩ := hget _ k hk
    rw [g4] at hB
    injection hB with hB; subst hB
    exact ⟨B0, g1, g2, g3, rfl, rfl⟩
   have renlen : ∀ {l l' : List Value}, renL ks H.length l = some l' → l'.length = l.length := by
    intro l
    induction l with
    | nil => intro l' h; simp only [renL, Option.some.injEq] at h; subst h; rfl
    | cons x l ih =>
     intro l' h
     simp only [renL] at h
     split at h
     ·rename_i hx
      simp only [Option.some.injEq] at h; subst h
      simp [ih hx]
     ·cases h
   refine ⟨glue H.length ks μ μ1, ⟨fun b i hbi => by rw [old (hm.dom b i hbi)]; exact hbi, fun b hb => old hb⟩, ⟨?_, ?_, ?_, ?_, ?_, ?_, ?_, Nat.le_trans hm.base hb.size, by have := hm.lk; simp; omega⟩, renV_rel hv hv1⟩
   ·intro b i hbi
    by_cases hbl : b < H.length
    ·simp; omega
    ·obtain ⟨k, hk, _⟩ := new hbl hbi
     have := (List.getElem?_eq_some_iff.1 hk).1
     simp; omega
   ·intro b i hbi
    by_cases hbl : b < H.length
    ·rw [old hbl] at hbi; exact hw.lt b i hbi
    ·obtain ⟨k, _, hk⟩ := new hbl hbi
     exact hR.lt k i hk
   ·intro b i B hbi hB
    by_cases hbl : b < H.length
    ·rw [old hbl] at hbi; rw [hold hbl] at hB; exact hw.sz b i B hbi hB
    ·obtain ⟨k, h1, h2⟩ := new hbl hbi
     obtain ⟨B0, g1, g2, g3, g4, g5⟩ := hnew hbl hB k h1
     rw [← g4]; exact hR.sz k i B0 h2 g1
   ·intro b i B hbi hB hd
    by_cases hbl : b < H.length
    ·rw [old hbl] at hbi; rw [hold hbl] at hB; exact hw.len b i B hbi hB hd
    ·obtain ⟨k, h1, h2⟩ := new hbl hbi
     obtain ⟨B0, g1, g2, g3, g4, g5⟩ := hnew hbl hB k h1
     rw [renlen g3]; exact hR.len k i B0 h2 g1 g2
   ·intro b i B hbi hB hd j x hj
    by_cases hbl : b < H.length
    ·rw [old hbl] at hbi; rw [hold hbl] at hB
     obtain ⟨x', e1, e2⟩ := hw.cell b i B hbi hB hd j x hj
     refine ⟨x', e1, ?_⟩
     exact e2.mono (n := H.length) ⟨fun b i hbi => by rw [old (hm.dom b i hbi)]; exact hbi, fun b hb => old hb⟩
    ·obtain ⟨k, h1, h2⟩ := new hbl hbi
     obtain ⟨B0, g1, g2, g3, g4, g5⟩ := hnew hbl hB k h1
     have hcell := hR.cell k i B0 h2 g1 g2
     have hjl : j < B0.c.length := by rw [← renlen g3]; exact (List.getElem?_eq_some_iff.1 hj).1
     have key : ∀ (l l' : List Value), renL ks H.length l = some l' → ∀ (j : Nat) (x : Value), l'[j]? = some x → ∃ y, l[j]? = some y ∧ ren0 ks H.length y = some x := by
      intro l
      induction l with
      | nil => intro l' h j x hj; simp only [renL, Option.some.injEq] at h; subst h; simp at hj
      | cons z l ih =>
       intro l' h j x hj
       simp only [renL] at h
       split at h
       ·rename_i z' r' hz hr'
        simp only [Option.some.injEq] at h; subst h
        cases j with
        | zero => simp at hj; subst hj; exact ⟨z, rfl, hz⟩
        | succ j => simpa using ih r' hr' j x (by simpa using hj)
       ·cases h
     obtain ⟨y, hy1, hy2⟩ := key _ _ g3 j x hj
     obtain ⟨x', e1, e2⟩ := hcell j y hy1
     exact ⟨x', e1, ren0_rel e2 hy2⟩
   ·intro b i B hbi hB hd hlk
    by_cases hbl : b < H.length
    ·rw [old hbl] at hbi; rw [hold hbl] at hB; exact hw.own b i B hbi hB hd hlk
    ·obtain ⟨k, h1, h2⟩ := new hbl hbi
     obtain ⟨B0, g1, g2, g3, g4, g5⟩ := hnew hbl hB k h1
     have := hR.own k i B0 h2 g1 g2 (Nat.zero_le _)
     exact ⟨Nat.le_trans hm.base this.1, this.2⟩
   ·intro b b' i i' B B' hne hbi hbi' hB hB' hd hd' hlk
    by_cases hbl : b < H.length
    ·rw [old hbl] at hbi; rw [hold hbl] at hB
     by_cases hbl' : b' < H.length
     ·rw [old hbl'] at hbi'; rw [hold hbl'] at hB'
      exact hw.disj b b' i i' B B' hne hbi hbi' hB hB' hd hd' hlk
     ·obtain ⟨k, h1, h2⟩ := new hbl' hbi'
      obtain ⟨B0, g1, g2, g3, g4, g5⟩ := hnew hbl' hB' k h1
      have h3 := hR.own k i' B0 h2 g1 g2 (Nat.zero_le _)
      rcases hm.lt b i hbi with g | ⟨e1, e2⟩
      ·exact .inl (by have := h3.1; omega)
      ·exact .inr (.inl (by omega))
    ·obtain ⟨k, h1, h2⟩ := new hbl hbi
     obtain ⟨B0, g1, g2, g3, g4, g5⟩ := hnew hbl hB k h1
     have h3 := hR.own k i B0 h2 g1 g2 (Nat.zero_le _)
     by_cases hbl' : b' < H.length
     ·rw [old hbl'] at hbi'
      rcases hm.lt b' i' hbi' with g | ⟨e1, e2⟩
      ·exact .inl (by have := h3.1; omega)
      ·exact .inr (.inr (by omega))
     ·obtain ⟨k', h1', h2'⟩ := new hbl' hbi'
      obtain ⟨B0', g1', g2', g3', g4', g5'⟩ := hnew hbl' hB' k' h1'
      refine hR.disj k k' i i' B0 B0' ?_ h2 h2' g1 g1' g2 g2' (Nat.zero_le _)
      rintro rfl
      have := nodupN_inj hn _ _ _ h1 h1'
      omega
  ·cases h

theorem kok1_list {us : List Value} {vs : Array Value} {μ' : Inj} (hk : us.all kok1 = true) (h : ∀ j, VR μ (us.getD j undef) (vs.getD j undef)) (j : Nat) : VR μ' (us.getD j undef) (vs.getD j undef) := by
 by_cases hj : j < us.length
 ·refine q8f (h j) ?_
  rw [List.all_eq_true] at hk
  rw [List.getD_eq_getElem?_getD, List.getElem?_eq_getElem hj]
  exact hk _ (by simp)
 ·refine kokV_same (h j) ?_
  rw [List.getD_eq_getElem?_getD, List.getElem?_eq_none (by omega)]
  rfl

def OrcOk (P : Program) (md : Md) : Prop := ∀ call, w3u P call → q1a call → ∀ (base lk : Nat) (μ : Inj) (H : Heap) (w : World) (g : FuncId) (fn : Func) (args : List Value) (args' : Array Value) (v : Value) (H' : Heap), md g = 5 → P.funcs[g]? = some fn → HR base lk μ H w → args.length = args'.size →
  (∀ j, VR μ (args.getD j undef) (args'.getD j undef)) → md.orc call lk g args H = some (v, H') →
  Calls P g args' w fun e w' => ∃ v' μ', e = .returned v' ∧ Le H.length μ μ' ∧ HR base lk μ' H' w' ∧ Below base w w' ∧ VR μ' v v'

theorem wrap0_ok {md : Md} {call : q0l} (hc : w4p P md call) : w3u P (q3q md call) := by
 intro base lk μ H w g fn args args' v H' hg hR hl ha h
 unfold q3q at h
 split at h
 ·split at h
  ·rename_i v0 H0 h0
   split at h
   ·rename_i hk
    simp only [Option.some.injEq, Prod.mk.injEq] at h
    obtain ⟨rfl, rfl⟩ := h
    refine (hc w.heap.size H.length μ H w g fn args args' v0 H0 (by omega) hg hR.hold hl ha h0).mono ?_
    rintro e w' ⟨v', μ', rfl, k1, k2, k3, k4⟩
    exact ⟨v', μ, rfl, Le.refl _ _, hR.below k3, k3.mono hR.base, kokV_same k4 hk⟩
   ·simp at h
  ·simp at h
 ·split at h
  ·rename_i v0 H0 h0
   split at h
   ·rename_i v1 N hN
    simp only [Option.some.injEq, Prod.mk.injEq] at h
    obtain ⟨rfl, rfl⟩ := h
    refine (hc w.heap.size H.length μ H w g fn args args' v0 H0 (by omega) hg hR.hold hl ha h0).mono ?_
    rintro e w' ⟨v', μ', rfl, k1, k2, k3, k4⟩
    obtain ⟨μs, a1, a2, a3⟩ := comp_v hR k2 k3 k1 k4 hN
    exact ⟨v', μs, rfl, a1, a2, k3.mono hR.base, a3⟩
   ·simp at h
  ·simp at h
 ·simp at h
 ·split at h
  ·rename_i hk
   split at h
   ·rename_i v0 H0 h0
    split at h
    ·rename_i v1 N hN
     simp only [Option.some.injEq, Prod.mk.injEq] at h
     obtain ⟨rfl, rfl⟩ := h
     have hE : HR w.heap.size 0 (fun _ => none) [] w := ⟨fun b i h => (by cases h), fun b i h => (by cases h), fun b i B h => (by cases h), fun b i B h => (by cases h), fun b i B h => (by cases h), fun b i B h => (by cases h), fun b b' i i' B B' _ h => (by cases h), Nat.le_refl _, Nat.le_refl _⟩
     refine (hc w.heap.size 0 (fun _ => none) [] w g fn args args' v0 H0 (by omega) hg hE hl (kok1_list hk ha) h0).mono ?_
     rintro e w' ⟨v', μ', rfl, k1, k2, k3, k4⟩
     obtain ⟨μs, a1, a2, a3⟩ := close_ok hR k2 k3 k4 hN
     exact ⟨v', μs, rfl, a1, a2, k3.mono hR.base, a3⟩
    ·simp at h
   ·simp at h
  ·simp at h
 ·cases h
 ·exact hc base lk μ H w g fn args args' v H' (by assumption) hg hR hl ha h
theorem wrap_ok {md : Md} (ho : OrcOk P md) {call : q0l} (hs : q1a call) (hc : w4p P md call) : w3u P (wrap md call) := by
 intro base lk μ H w g fn args args' v H' hg hR hl ha h
 unfold wrap at h
 split at h
 ·exact ho _ (wrap0_ok hc) (w2e hs) base lk μ H w g fn args args' v H' (by assumption) hg hR hl ha h
 ·exact wrap0_ok hc base lk μ H w g fn args args' v H' hg hR hl ha h
end
end Gx
end
