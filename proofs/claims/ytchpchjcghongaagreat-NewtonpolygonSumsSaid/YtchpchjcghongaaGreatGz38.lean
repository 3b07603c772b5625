/- Calls of which only the result is kept. -/
import Derived.Test.YtchpchjcghongaaGreatGz37
set_option linter.all false
set_option linter.unusedVariables false
set_option linter.unusedSimpArgs false
set_option linter.unnecessarySimpa false
set_option linter.deprecated false
section
set_option autoImplicit false
namespace Gx
open Go Go.RowKit

theorem kok0_same {μ μ' : Inj} {v v' : Value} (h : VR0 μ v v') (hk : kok0 v = true) : VR0 μ' v v' := by
  cases h with
  | bool b => exact .bool b
  | int k n => exact .int k n
  | str s => exact .str s
  | nilp => exact .nilp
  | ptr h => simp [kok0] at hk
  | nils => exact .nils
  | sl h hn ha => simp [kok0] at hk
  | func hs h => simp [kok0] at hk
  | nilf => exact .nilf
  | nili => exact .nili

theorem kok1_same {μ μ' : Inj} {v v' : Value} (h : VR μ v v') (hk : kok1 v = true) : VR μ' v v' := by
  cases h with
  | one h =>
    refine .one (kok0_same h ?_)
    cases v <;> first | exact hk | cases h
  | agg hs h =>
    rename_i cs ds
    refine .agg hs fun j => ?_
    by_cases hj : j < cs.size
    · refine kok0_same (h j) ?_
      have hall : cs.toList.all kok0 = true := hk
      rw [List.all_eq_true] at hall
      have : cs.getD j .nilFunc = cs[j] := by simp [hj]
      rw [this]
      exact hall _ (by simp)
    · have e1 : cs.getD j .nilFunc = .nilFunc := by simp [hj]
      have e2 : ds.getD j .nilFunc = .nilFunc := by simp [show ¬ j < ds.size by omega]
      rw [e1, e2]; exact .nilf
  | tuple hs h => exact absurd hk (by simp [kok1, kok0])
  | junk v => exact absurd hk (by simp [kok1, kok0, Gx.junk])

theorem kokV_same {μ μ' : Inj} {v v' : Value} (h : VR μ v v') (hk : kokV v = true) : VR μ' v v' := by
  cases h with
  | one h =>
    refine kok1_same (.one h) ?_
    cases v <;> first | exact hk | cases h
  | agg hs h => exact kok1_same (.agg hs h) hk
  | tuple hs h =>
    rename_i cs ds
    refine .tuple hs fun j => ?_
    by_cases hj : j < cs.size
    · refine kok1_same (h j) ?_
      have hall : cs.toList.all kok1 = true := hk
      rw [List.all_eq_true] at hall
      have : cs.getD j .nilFunc = cs[j] := by simp [hj]
      rw [this]
      exact hall _ (by simp)
    · have e1 : cs.getD j .nilFunc = .nilFunc := by simp [hj]
      have e2 : ds.getD j .nilFunc = .nilFunc := by simp [show ¬ j < ds.size by omega]
      rw [e1, e2]; exact .one .nilf
  | junk v => exact absurd hk (by simp [kokV, kok1, kok0, Gx.junk])

theorem wrap_stab {md : FuncId → Nat} {call : CallFn} (hc : CallStab call) : CallStab (wrap md call) := by
  intro lk g args H v H' h
  unfold wrap at h
  split at h
  · split at h
    · split at h
      · simp only [Option.some.injEq, Prod.mk.injEq] at h
        obtain ⟨_, rfl⟩ := h
        exact Stab.refl _ _
      · simp at h
    · simp at h
  · split at h
    · split at h
      · simp only [Option.some.injEq, Prod.mk.injEq] at h
        obtain ⟨_, rfl⟩ := h
        exact ⟨by simp, fun b _ hb => List.getElem?_append_left hb⟩
      · simp at h
    · simp at h
  · simp at h
  · exact hc _ _ _ _ _ _ h

section
variable {P : Program} {base lk : Nat} {μ μ1 : Inj} {H H1 : Heap} {w w' : World}

/-- While a result's slices are laid anew. -/
structure Comp (base lk : Nat) (μ μ1 : Inj) (H H1 : Heap) (w' : World) (s : List Nat × List Blk) (μs : Inj) : Prop where
  le : Le H.length μ μs
  rel : HR base lk μs (H ++ s.2) w'
  src : ∀ x j, H.length ≤ x → μs x = some j → ∃ b i B, b ∈ s.1 ∧ μ1 b = some i ∧ H1[b]? = some B ∧ B.dead = false ∧ H.length ≤ b ∧ j.r = i.r ∧ i.o ≤ j.o ∧ j.o + j.ext ≤ i.o + i.ext

theorem comp_cell (hm : HR base lk μ H w) (hR : HR w.heap.size H.length μ1 H1 w') (hb : Below w.heap.size w w') (hle : Le H.length μ μ1) {s s' : List Nat × List Blk} {μs : Inj} (C : Comp base lk μ μ1 H H1 w' s μs) {v v' u : Value} (hv : VR μ1 v u)
    (h : compCell H1 H.length s v = some (v', s')) : ∃ μs', Le (H ++ s.2).length μs μs' ∧ Comp base lk μ μ1 H H1 w' s' μs' ∧ VR μs' v' u ∧ s.2.length ≤ s'.2.length := by
  unfold compCell at h
  split at h
  · rename_i b o n m
    obtain ⟨rfl, i, a, c, rfl, hbi, hnc, ha⟩ := hv.sl_inv
    split at h
    · rename_i hlt
      split at h
      · simp only [Option.some.injEq, Prod.mk.injEq] at h
        obtain ⟨rfl, rfl⟩ := h
        refine ⟨μs, Le.refl _ _, C, .one (.sl (i := i) ?_ hnc ha), Nat.le_refl _⟩
        rw [C.le.2 b hlt, ← hle.2 b hlt]; exact hbi
      · simp at h
    · rename_i hge
      split at h
      · rename_i B hB
        obtain ⟨hB, hd⟩ := ilive_iff.1 hB
        split at h
        · rename_i hc
          obtain ⟨c1, c2, c3, c4⟩ := hc
          simp only [Option.some.injEq, Prod.mk.injEq] at h
          obtain ⟨rfl, rfl⟩ := h
          have hsz := hR.sz b i B hbi hB
          have hlen := hR.len b i B hbi hB hd
          have hown := hR.own b i B hbi hB hd (by omega)
          have hat := C.rel.at ⟨i.r, i.o + o, i.ext - o, i.sz⟩ ((B.c.drop o).take (m * B.sz)) ((hR.lt b i hbi).imp id fun ⟨x, y⟩ => ⟨by simp only; omega, by simp only; omega⟩) (Nat.le_trans hm.base hown.1) (by simp; omega) (by
              intro j x hj
              have hjl : j < m * B.sz := by
                have := (List.getElem?_eq_some_iff.1 hj).1
                simp at this; omega
              rw [List.getElem?_take, if_pos hjl, List.getElem?_drop] at hj
              obtain ⟨x', g1, g2⟩ := hR.cell b i B hbi hB hd (o + j) x hj
              refine ⟨x', by simp only; rw [Nat.add_assoc]; exact g1, kok0_same g2 ?_⟩
              rw [List.all_eq_true] at c4
              refine c4 x (List.mem_of_getElem? (i := j) ?_)
              rw [List.getElem?_take, if_pos hjl, List.getElem?_drop]; exact hj) (by
              intro j hj
              have := hown.2 (o + j) (by simp only at hj; omega)
              simp only
              rw [Nat.add_assoc]; exact this) (by
              intro x j D hx hD hdD
              by_cases hxl : x < H.length
              · have hx' : μ x = some j := by rw [← C.le.2 x hxl]; exact hx
                rcases hm.lt x j hx' with g | ⟨g1, g2⟩
                · have := hown.1
                  exact .inl (by simp only; omega)
                · exact .inr (.inl (by simp only; omega))
              · obtain ⟨b', i', B', g1, g2, g3, g4, g5, g6, g7, g8⟩ := C.src x j (by omega) hx
                have hne : b' ≠ b := by
                  rintro rfl
                  have : s.1.contains b' = true := by simpa using g1
                  rw [c3] at this; simp at this
                rcases hR.disj b' b i' i B' B hne g2 hbi g3 hB g4 hd g5 with k | k | k
                · exact .inl (by simp only; omega)
                · exact .inr (.inl (by simp only; omega))
                · exact .inr (.inr (by simp only; omega)))
          rw [show i.sz = B.sz from hsz.symm] at hat
          have hext := Le.ext C.rel ⟨i.r, i.o + o, i.ext - o, B.sz⟩
          refine ⟨_, hext, ⟨C.le.trans hext (by simp), by rw [← List.append_assoc]; exact hat, ?_⟩, ?_, by simp⟩
          · intro x j hx hj
            unfold ext at hj
            split at hj
            · injection hj with hj; subst hj
              exact ⟨b, i, B, by simp, hbi, hB, hd, by omega, rfl, by simp only; omega, by simp only; omega⟩
            · obtain ⟨b', i', B', g1, g⟩ := C.src x j hx hj
              exact ⟨b', i', B', by simp [g1], g⟩
          · refine .one (.sl (i := ⟨i.r, i.o + o, i.ext - o, B.sz⟩) (by simp [ext]) hnc fun hc0 => ?_)
            obtain ⟨k1, k2⟩ := ha hc0
            exact ⟨by rw [k1]; simp, by simp only; rw [hsz]; omega⟩
        · simp at h
      · simp at h
  · rename_i hne
    split at h
    · rename_i hk
      simp only [Option.some.injEq, Prod.mk.injEq] at h
      obtain ⟨rfl, rfl⟩ := h
      refine ⟨μs, Le.refl _ _, C, ?_, Nat.le_refl _⟩
      refine kok1_same hv ?_
      cases v <;> first | exact hk | simp [kok0] at hk
    · simp at h

theorem comp_cells (hm : HR base lk μ H w) (hR : HR w.heap.size H.length μ1 H1 w') (hb : Below w.heap.size w w') (hle : Le H.length μ μ1) : ∀ (vs us : List Value) (s s' : List Nat × List Blk) (μs : Inj) (vs' : List Value), Comp base lk μ μ1 H H1 w' s μs → LR μ1 vs us →
    compCells H1 H.length s vs = some (vs', s') → ∃ μs', Le (H ++ s.2).length μs μs' ∧ Comp base lk μ μ1 H H1 w' s' μs' ∧ LR μs' vs' us ∧ s.2.length ≤ s'.2.length
  | [], us, s, s', μs, vs', C, hr, h => by
    simp only [compCells, Option.some.injEq, Prod.mk.injEq] at h
    obtain ⟨rfl, rfl⟩ := h
    have : us = [] := by have := hr.1; simp at this; exact List.length_eq_zero_iff.1 this.symm
    subst this
    exact ⟨μs, Le.refl _ _, C, LR.nil _, Nat.le_refl _⟩
  | v :: vs, [], s, s', μs, vs', C, hr, h => by have := hr.1; simp at this
  | v :: vs, u :: us, s, s', μs, vs', C, hr, h => by
    simp only [compCells] at h
    split at h
    · rename_i v1 s1 hv
      split at h
      · rename_i r1 s2 hrs
        simp only [Option.some.injEq, Prod.mk.injEq] at h
        obtain ⟨rfl, rfl⟩ := h
        obtain ⟨u', e1, e2⟩ := hr.2 0 v rfl
        simp at e1; subst e1
        have hr' : LR μ1 vs us := ⟨by have := hr.1; simpa using this, fun j x hj => by simpa using hr.2 (j + 1) x (by simpa using hj)⟩
        obtain ⟨μa, a1, a2, a3, a4⟩ := comp_cell hm hR hb hle C (.one e2) hv
        obtain ⟨μb, b1, b2, b3, b4⟩ := comp_cells hm hR hb hle vs us s1 s2 μa r1 a2 hr' hrs
        refine ⟨μb, a1.trans b1 (by simp; omega), b2, .cons ?_ b3, by omega⟩
        have hv1 : VR0 μa v1 u := by
          unfold compCell at hv
          split at hv
          · split at hv
            · split at hv
              · simp only [Option.some.injEq, Prod.mk.injEq] at hv
                obtain ⟨rfl, _⟩ := hv
                exact a3.zero_of (by simp [junk]) (by simp) (by simp)
              · simp at hv
            · split at hv
              · split at hv
                · simp only [Option.some.injEq, Prod.mk.injEq] at hv
                  obtain ⟨rfl, _⟩ := hv
                  exact a3.zero_of (by simp [junk]) (by simp) (by simp)
                · simp at hv
              · simp at hv
          · split at hv
            · rename_i hk
              simp only [Option.some.injEq, Prod.mk.injEq] at hv
              obtain ⟨rfl, _⟩ := hv
              exact kok0_same e2 hk
            · simp at hv
        exact hv1.mono b1
      · simp at h
    · simp at h

theorem comp_1 (hm : HR base lk μ H w) (hR : HR w.heap.size H.length μ1 H1 w') (hb : Below w.heap.size w w') (hle : Le H.length μ μ1) {s s' : List Nat × List Blk} {μs : Inj} (C : Comp base lk μ μ1 H H1 w' s μs) {v v' u : Value} (hv : VR μ1 v u)
    (h : comp1 H1 H.length s v = some (v', s')) : ∃ μs', Le (H ++ s.2).length μs μs' ∧ Comp base lk μ μ1 H H1 w' s' μs' ∧ VR μs' v' u ∧ s.2.length ≤ s'.2.length := by
  unfold comp1 at h
  split at h
  · rename_i cs
    obtain ⟨x, hx, he⟩ := Option.map_eq_some_iff.1 h
    obtain ⟨vs', s1⟩ := x
    simp only [Prod.mk.injEq] at he
    obtain ⟨rfl, rfl⟩ := he
    obtain ⟨ds, rfl, hr⟩ := hv.agg_iff
    obtain ⟨μs', a1, a2, a3, a4⟩ := comp_cells hm hR hb hle _ _ _ _ _ _ C hr hx
    exact ⟨μs', a1, a2, VR.of_list (by simpa using a3), a4⟩
  · exact comp_cell hm hR hb hle C hv h

theorem comp_list (hm : HR base lk μ H w) (hR : HR w.heap.size H.length μ1 H1 w') (hb : Below w.heap.size w w') (hle : Le H.length μ μ1) : ∀ (vs us : List Value) (s s' : List Nat × List Blk) (μs : Inj) (vs' : List Value), Comp base lk μ μ1 H H1 w' s μs → vs.length = us.length →
    (∀ j, VR μ1 (vs.getD j .nilFunc) (us.getD j .nilFunc)) → compList H1 H.length s vs = some (vs', s') →
    ∃ μs', Le (H ++ s.2).length μs μs' ∧ Comp base lk μ μ1 H H1 w' s' μs' ∧ vs'.length = us.length ∧ (∀ j, VR μs' (vs'.getD j .nilFunc) (us.getD j .nilFunc)) ∧ s.2.length ≤ s'.2.length
  | [], us, s, s', μs, vs', C, hl, hr, h => by
    simp only [compList, Option.some.injEq, Prod.mk.injEq] at h
    obtain ⟨rfl, rfl⟩ := h
    have : us = [] := List.length_eq_zero_iff.1 hl.symm
    subst this
    exact ⟨μs, Le.refl _ _, C, rfl, fun j => .one (by simpa using VR0.nilf), Nat.le_refl _⟩
  | v :: vs, [], s, s', μs, vs', C, hl, hr, h => by simp at hl
  | v :: vs, u :: us, s, s', μs, vs', C, hl, hr, h => by
    simp only [compList] at h
    split at h
    · rename_i v1 s1 hv
      split at h
      · rename_i r1 s2 hrs
        simp only [Option.some.injEq, Prod.mk.injEq] at h
        obtain ⟨rfl, rfl⟩ := h
        obtain ⟨μa, a1, a2, a3, a4⟩ := comp_1 hm hR hb hle C (by simpa using hr 0) hv
        obtain ⟨μb, b1, b2, b3, b5, b4⟩ := comp_list hm hR hb hle vs us s1 s2 μa r1 a2 (by simpa using hl) (fun j => by simpa using hr (j + 1)) hrs
        refine ⟨μb, a1.trans b1 (by simp; omega), b2, by simp [b3], fun j => ?_, by omega⟩
        cases j with
        | zero => simpa using a3.mono b1
        | succ j => simpa using b5 j
      · simp at h
    · simp at h

theorem comp_v (hm : HR base lk μ H w) (hR : HR w.heap.size H.length μ1 H1 w') (hb : Below w.heap.size w w') (hle : Le H.length μ μ1) {v v' u : Value} {N : List Blk} (hv : VR μ1 v u) (h : compV H1 H.length v = some (v', N)) :
    ∃ μs, Le H.length μ μs ∧ HR base lk μs (H ++ N) w' ∧ VR μs v' u := by
  have C0 : Comp base lk μ μ1 H H1 w' ([], []) μ := ⟨Le.refl _ _, by simpa using hm.below hb, fun x j hx hj => absurd (hm.dom x j hj) (by omega)⟩
  unfold compV at h
  split at h
  · rename_i vs
    obtain ⟨x, hx, he⟩ := Option.map_eq_some_iff.1 h
    obtain ⟨vs', s1⟩ := x
    simp only [Prod.mk.injEq] at he
    obtain ⟨rfl, rfl⟩ := he
    have ht : ∃ ds, u = .tuple ds ∧ vs.size = ds.size ∧ ∀ j, VR μ1 (vs.getD j .nilFunc) (ds.getD j .nilFunc) := by
      cases hv with
      | one h => cases h
      | tuple hs h => exact ⟨_, rfl, hs, h⟩
    obtain ⟨ds, rfl, hs, hj⟩ := ht
    obtain ⟨μs', a1, a2, a3, a5, a4⟩ := comp_list hm hR hb hle vs.toList ds.toList _ _ _ _ C0 (by simpa using hs) (fun j => by have := hj j; simpa using this) hx
    refine ⟨μs', a2.le, a2.rel, .tuple (by simpa using a3) fun j => ?_⟩
    have := a5 j
    simpa using this
  · obtain ⟨x, hx, he⟩ := Option.map_eq_some_iff.1 h
    obtain ⟨v1, s1⟩ := x
    simp only [Prod.mk.injEq] at he
    obtain ⟨rfl, rfl⟩ := he
    obtain ⟨μs', a1, a2, a3, a4⟩ := comp_1 hm hR hb hle C0 hv hx
    exact ⟨μs', a2.le, a2.rel, a3⟩

theorem wrap_ok {md : FuncId → Nat} {call : CallFn} (hc : CallOkOn P md call) : CallOk P (wrap md call) := by
  intro base lk μ H w g fn args args' v H' hg hR hl ha h
  unfold wrap at h
  split at h
  · split at h
    · rename_i v0 H0 h0
      split at h
      · rename_i hk
        simp only [Option.some.injEq, Prod.mk.injEq] at h
        obtain ⟨rfl, rfl⟩ := h
        refine (hc w.heap.size H.length μ H w g fn args args' v0 H0 (by omega) hg hR.hold hl ha h0).mono ?_
        rintro e w' ⟨v', μ', rfl, k1, k2, k3, k4⟩
        exact ⟨v', μ, rfl, Le.refl _ _, hR.below k3, k3.mono hR.base, kokV_same k4 hk⟩
      · simp at h
    · simp at h
  · split at h
    · rename_i v0 H0 h0
      split at h
      · rename_i v1 N hN
        simp only [Option.some.injEq, Prod.mk.injEq] at h
        obtain ⟨rfl, rfl⟩ := h
        refine (hc w.heap.size H.length μ H w g fn args args' v0 H0 (by omega) hg hR.hold hl ha h0).mono ?_
        rintro e w' ⟨v', μ', rfl, k1, k2, k3, k4⟩
        obtain ⟨μs, a1, a2, a3⟩ := comp_v hR k2 k3 k1 k4 hN
        exact ⟨v', μs, rfl, a1, a2, k3.mono hR.base, a3⟩
      · simp at h
    · simp at h
  · simp at h
  · exact hc base lk μ H w g fn args args' v H' (by assumption) hg hR hl ha h
end
end Gx
end
