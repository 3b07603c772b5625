/- Stores and appends keep the relation. -/
import Derived.Test.YtehnbdbhjeffaaaGreatGz17
import Derived.Laws.IdiomCopy
set_option linter.all false
section
set_option autoImplicit false
namespace Gx
open Go Go.RowKit

theorem q2z (r : Nat) : ∀ (vs : List Value) (o : Nat) (w : World), (w.setCells r o vs).heap.size = w.heap.size
 | [], _, _ => rfl
 | v :: l, o, w => by rw [World.setCells, q2z r l]; simp [World.setCell]

theorem q6k (r base : Nat) (hr : base ≤ r) : ∀ (vs : List Value) (o : Nat) (w : World), Below base w (w.setCells r o vs)
 | [], _, w => Below.refl _ w
 | v :: l, o, w => by
  rw [World.setCells]
  exact ((Below.refl base w).setCell (p := ⟨r, o, none⟩) hr v).trans (q6k r base hr l (o + 1) _)

section
variable {base lk : Nat} {μ : Inj} {H : Heap} {w : World}

theorem HR.kill (h : HR base lk μ H w) {b : Nat} {B : Blk} (hB : H[b]? = some B) : HR base lk μ (H.set b { B with dead := true }) w := by
 have hlt : b < H.length := (List.getElem?_eq_some_iff.1 hB).1
 have old : ∀ (x : Nat) (C : Blk), (H.set b { B with dead := true })[x]? = some C → C.dead = false → H[x]? = some C := by
  intro x C hC hd
  rw [List.getElem?_set] at hC
  split at hC
  ·injection hC with hC; subst hC; simp at hd
  ·exact hC
 refine ⟨fun x i hx => by simpa using h.dom x i hx, h.lt, fun x i C hx hC => ?_, fun x i C hx hC hd => h.len x i C hx (old x C hC hd) hd, fun x i C hx hC hd => h.cell x i C hx (old x C hC hd) hd,
  fun x i C hx hC hd => h.own x i C hx (old x C hC hd) hd, fun x y i j C D hne hx hy hC hD hd hd' => h.disj x y i j C D hne hx hy (old x C hC hd) (old y D hD hd') hd hd', h.base, by simpa using h.lk⟩
 rw [List.getElem?_set] at hC
 split at hC
 ·rename_i e
  injection hC with hC; subst hC; subst e; exact h.sz _ i B hx hB
 ·exact h.sz x i C hx hC

theorem HR.setfree (h : HR base lk μ H w) (r x : Nat) (us : List Value)
  (hf : ∀ b i B, μ b = some i → H[b]? = some B → B.dead = false → i.r ≠ r ∨ i.o + i.ext ≤ x ∨ x + us.length ≤ i.o) : HR base lk μ H (w.setCells r x us) := by
 have hc : ∀ b i B, μ b = some i → H[b]? = some B → B.dead = false → ∀ j, j < i.ext → (w.setCells r x us).cell? ⟨i.r, i.o + j, none⟩ = w.cell? ⟨i.r, i.o + j, none⟩ := by
  intro b i B h1 h2 h3 j hj
  apply World.cell?_setCells_out
  intro e _
  rcases hf b i B h1 h2 h3 with g | g | g
  ·exact absurd e g
  ·exact .inl (by simp only; omega)
  ·exact .inr (by simp only; omega)
 refine ⟨h.dom, fun b i hb => by rw [q2z]; exact h.lt b i hb, h.sz, h.len, fun b i B h1 h2 h3 j v h4 => ?_, fun b i B h1 h2 h3 h4 => ⟨(h.own b i B h1 h2 h3 h4).1, fun j hj => ?_⟩, h.disj, by rw [q2z]; exact h.base, h.lk⟩
 ·have hj : j < B.c.length := (List.getElem?_eq_some_iff.1 h4).1
  rw [hc b i B h1 h2 h3 j (by have := h.len b i B h1 h2 h3; omega)]
  exact h.cell b i B h1 h2 h3 j v h4
 ·rw [hc b i B h1 h2 h3 j hj, World.frozen?_setCells]
  exact (h.own b i B h1 h2 h3 h4).2 j hj

theorem HR.at (h : HR base lk μ H w) (i : Info) (cs : List Value) (hr : i.r < w.heap.size ∨ (i.o = 0 ∧ i.ext = 0)) (hb : base ≤ i.r) (hl : cs.length ≤ i.ext)
  (hcell : ∀ (j : Nat) (v : Value), cs[j]? = some v → ∃ v', w.cell? ⟨i.r, i.o + j, none⟩ = some v' ∧ VR0 μ v v')
  (hown : ∀ j, j < i.ext → (∃ v', w.cell? ⟨i.r, i.o + j, none⟩ = some v') ∧ w.frozen? ⟨i.r, i.o + j, none⟩ = false)
  (hfree : ∀ b j B, μ b = some j → H[b]? = some B → B.dead = false → j.r ≠ i.r ∨ j.o + j.ext ≤ i.o ∨ i.o + i.ext ≤ j.o) :
  HR base lk (Gx.ext μ H.length i) (H ++ [⟨cs, i.sz, false⟩]) w := by
 have hle := Le.ext h i
 have hold : ∀ b j, Gx.ext μ H.length i b = some j → b ≠ H.length → μ b = some j ∧ b < H.length := by
  intro b j hb hne
  unfold Gx.ext at hb; rw [if_neg hne] at hb
  exact ⟨hb, h.dom b j hb⟩
 have hnew : ∀ j, Gx.ext μ H.length i H.length = some j → j = i := by
  intro j hi; unfold Gx.ext at hi; rw [if_pos rfl] at hi; injection hi with hi; exact hi.symm
 have hgo : ∀ b, b < H.length → (H ++ [⟨cs, i.sz, false⟩])[b]? = H[b]? := fun b hb => List.getElem?_append_left hb
 have hgn : (H ++ [(⟨cs, i.sz, false⟩ : Blk)])[H.length]? = some ⟨cs, i.sz, false⟩ := by simp
 refine ⟨?_, ?_, ?_, ?_, ?_, ?_, ?_, h.base, by have := h.lk; simp; omega⟩
 ·intro b j hb
  by_cases e : b = H.length
  ·subst e; simp
  ·have := (hold b j hb e).2; simp; omega
 ·intro b j hb
  by_cases e : b = H.length
  ·subst e; rw [hnew j hb]; exact hr
  ·exact h.lt b j (hold b j hb e).1
 ·intro b j B hb hB
  by_cases e : b = H.length
  ·subst e; rw [hgn] at hB; injection hB with hB; subst hB; rw [hnew j hb]
  ·obtain ⟨h1, h2⟩ := hold b j hb e; rw [hgo b h2] at hB; exact h.sz b j B h1 hB
 ·intro b j B hb hB hd
  by_cases e : b = H.length
  ·subst e; rw [hgn] at hB; injection hB with hB; subst hB; rw [hnew j hb]; exact hl
  ·obtain ⟨h1, h2⟩ := hold b j hb e; rw [hgo b h2] at hB; exact h.len b j B h1 hB hd
 ·intro b j B hb hB hd x v hx
  by_cases e : b = H.length
  ·subst e; rw [hgn] at hB; injection hB with hB; subst hB; rw [hnew j hb]
   obtain ⟨v', a, c⟩ := hcell x v hx
   exact ⟨v', a, c.mono hle⟩
  ·obtain ⟨h1, h2⟩ := hold b j hb e; rw [hgo b h2] at hB
   obtain ⟨v', a, c⟩ := h.cell b j B h1 hB hd x v hx
   exact ⟨v', a, c.mono hle⟩
 ·intro b j B hb' hB hd hlk
  by_cases e : b = H.length
  ·subst e; rw [hnew j hb']; exact ⟨hb, hown⟩
  ·obtain ⟨h1, h2⟩ := hold b j hb' e; rw [hgo b h2] at hB
   exact h.own b j B h1 hB hd hlk
 ·intro b b' j j' B B' hne hb1 hb' hB hB' hd hd' hlk
  by_cases e : b = H.length
  ·subst e
   obtain ⟨h1, h2⟩ := hold b' j' hb' (Ne.symm hne)
   rw [hgo b' h2] at hB'
   rw [hnew j hb1]
   rcases hfree b' j' B' h1 hB' hd' with g | g | g
   ·exact .inl (Ne.symm g)
   ·exact .inr (.inr g)
   ·exact .inr (.inl g)
  ·obtain ⟨h1, h2⟩ := hold b j hb1 e; rw [hgo b h2] at hB
   by_cases e' : b' = H.length
   ·subst e'
    rw [hnew j' hb']
    exact hfree b j B h1 hB hd
   ·obtain ⟨h1', h2'⟩ := hold b' j' hb' e'; rw [hgo b' h2'] at hB'
    exact h.disj b b' j j' B B' hne h1 h1' hB hB' hd hd' hlk

theorem HR.set (h : HR base lk μ H w) {b : Nat} {i : Info} {B : Blk} (hb : μ b = some i) (hB : H[b]? = some B) (hd : B.dead = false) (hlk : lk ≤ b) (o : Nat) {vs us : List Value}
  (ho : o + vs.length ≤ B.c.length) (hr : LR μ vs us) :
  HR base lk μ (H.set b { B with c := iput B.c o vs }) (w.setCells i.r (i.o + o) us) := by
 have hlt : b < H.length := (List.getElem?_eq_some_iff.1 hB).1
 have hlen := h.len b i B hb hB hd
 have hiput : (iput B.c o vs).length = B.c.length := by unfold iput; simp; omega
 have hul := hr.1
 have new : ∀ (x : Nat) (C : Blk), (H.set b { B with c := iput B.c o vs })[x]? = some C → (x = b ∧ C = { B with c := iput B.c o vs }) ∨ (x ≠ b ∧ H[x]? = some C) := by
  intro x C hC
  rw [List.getElem?_set] at hC
  split at hC
  ·rename_i e
   injection hC with hC; exact .inl ⟨e.symm, hC.symm⟩
  ·exact .inr ⟨Ne.symm (by assumption), hC⟩
 have hex : ∀ j, j < us.length → ((w.cell? ⟨i.r, i.o + o + j, none⟩).isSome) = true := by
  intro j hj
  obtain ⟨v', hv⟩ := ((h.own b i B hb hB hd hlk).2 (o + j) (by omega)).1
  rw [show i.o + o + j = i.o + (o + j) by omega, hv]; rfl
 have far : ∀ x j C, x ≠ b → μ x = some j → H[x]? = some C → C.dead = false → ∀ y, y < j.ext → (w.setCells i.r (i.o + o) us).cell? ⟨j.r, j.o + y, none⟩ = w.cell? ⟨j.r, j.o + y, none⟩ := by
  intro x j C hne hx hC hdC y hy
  apply World.cell?_setCells_out
  intro e _
  simp only at e
  rcases h.disj b x i j B C (Ne.symm hne) hb hx hB hC hd hdC hlk with g | g | g
  ·exact absurd e.symm g
  ·exact .inr (by simp only; omega)
  ·exact .inl (by simp only; omega)
 refine ⟨fun x j hx => by simpa using h.dom x j hx, fun x j hx => by rw [q2z]; exact h.lt x j hx, ?_, ?_, ?_, ?_, ?_, by rw [q2z]; exact h.base, by simpa using h.lk⟩
 ·intro x j C hx hC
  rcases new x C hC with ⟨rfl, rfl⟩ | ⟨hne, hC⟩
  ·exact h.sz _ j B hx hB
  ·exact h.sz x j C hx hC
 ·intro x j C hx hC hdC
  rcases new x C hC with ⟨rfl, rfl⟩ | ⟨hne, hC⟩
  ·simp only [hiput]; exact h.len _ j B hx hB hd
  ·exact h.len x j C hx hC hdC
 ·intro x j C hx hC hdC y v hy
  rcases new x C hC with ⟨rfl, rfl⟩ | ⟨hne, hC⟩
  ·rw [hb] at hx; injection hx with hx; subst hx
   simp only [iput] at hy
   have hyl : y < B.c.length := by
    have := (List.getElem?_eq_some_iff.1 hy).1
    simp at this; omega
   by_cases h1 : y < o
   ·have hout : (w.setCells i.r (i.o + o) us).cell? ⟨i.r, i.o + y, none⟩ = w.cell? ⟨i.r, i.o + y, none⟩ := World.cell?_setCells_out _ _ _ _ _ (fun _ _ => .inl (by simp only; omega))
    rw [hout]
    rw [List.append_assoc, List.getElem?_append_left (by simp; omega), List.getElem?_take, if_pos h1] at hy
    exact h.cell _ i B hb hB hd y v hy
   ·by_cases h2 : y < o + vs.length
    ·have hin := World.cell?_setCells_in i.r us (i.o + o) w hex (y - o) (by omega)
     rw [show i.o + o + (y - o) = i.o + y by omega] at hin
     rw [hin]
     rw [List.append_assoc, List.getElem?_append_right (by simp; omega), List.getElem?_append_left (by simp; omega)] at hy
     have hto : (List.take o B.c).length = o := by simp; omega
     rw [hto] at hy
     obtain ⟨v', a, c⟩ := hr.2 _ v hy
     refine ⟨_, rfl, ?_⟩
     have := (List.getElem?_eq_some_iff.1 a).2
     rw [this]; exact c
    ·have hout : (w.setCells i.r (i.o + o) us).cell? ⟨i.r, i.o + y, none⟩ = w.cell? ⟨i.r, i.o + y, none⟩ := World.cell?_setCells_out _ _ _ _ _ (fun _ _ => .inr (by simp only; omega))
     rw [hout]
     have hto : (List.take o B.c).length = o := by simp; omega
     rw [List.getElem?_append_right (by simp; omega), List.getElem?_drop] at hy
     have hlen2 : (List.take o B.c ++ vs).length = o + vs.length := by simp; omega
     rw [hlen2, show o + vs.length + (y - (o + vs.length)) = y by omega] at hy
     exact h.cell _ i B hb hB hd y v hy
  ·have hyl : y < C.c.length := (List.getElem?_eq_some_iff.1 hy).1
   rw [far x j C hne hx hC hdC y (by have := h.len x j C hx hC hdC; omega)]
   exact h.cell x j C hx hC hdC y v hy
 ·intro x j C hx hC hdC hlkx
  rcases new x C hC with ⟨rfl, rfl⟩ | ⟨hne, hC⟩
  ·rw [hb] at hx; injection hx with hx; subst hx
   obtain ⟨g1, g2⟩ := h.own _ i B hb hB hd hlk
   refine ⟨g1, fun y hy => ⟨?_, by rw [World.frozen?_setCells]; exact (g2 y hy).2⟩⟩
   by_cases h1 : o ≤ y ∧ y < o + us.length
   ·have hin := World.cell?_setCells_in i.r us (i.o + o) w hex (y - o) (by omega)
    rw [show i.o + o + (y - o) = i.o + y by omega] at hin
    exact ⟨_, hin⟩
   ·have hout : (w.setCells i.r (i.o + o) us).cell? ⟨i.r, i.o + y, none⟩ = w.cell? ⟨i.r, i.o + y, none⟩ := World.cell?_setCells_out _ _ _ _ _ (fun _ _ => by simp only; omega)
    rw [hout]; exact (g2 y hy).1
  ·obtain ⟨g1, g2⟩ := h.own x j C hx hC hdC hlkx
   refine ⟨g1, fun y hy => ?_⟩
   rw [far x j C hne hx hC hdC y hy, World.frozen?_setCells]
   exact g2 y hy
 ·intro x y j j' C C' hne hx hy hC hC' hdC hdC' hlkx
  have toold : ∀ (z : Nat) (D : Blk), (H.set b { B with c := iput B.c o vs })[z]? = some D → D.dead = false → ∃ D' : Blk, H[z]? = some D' ∧ D'.dead = false := by
   intro z D hD hdD
   rcases new z D hD with ⟨rfl, rfl⟩ | ⟨_, hD⟩
   ·exact ⟨B, hB, hd⟩
   ·exact ⟨D, hD, hdD⟩
  obtain ⟨D, a1, a2⟩ := toold x C hC hdC
  obtain ⟨D', b1, b2⟩ := toold y C' hC' hdC'
  exact h.disj x y j j' D D' hne hx hy a1 b1 a2 b2 hlkx

theorem HR.grow (h : HR base lk μ H w) {b : Nat} {i : Info} {B : Blk} (hb : μ b = some i) (hB : H[b]? = some B) (hd : B.dead = false) (hlk : lk ≤ b) (o m : Nat) {vs us : List Value}
  (ho : o + m ≤ B.c.length) (he : o + m + vs.length ≤ i.ext) (hr : LR μ vs us) :
  HR base lk (Gx.ext μ H.length ⟨i.r, i.o + o, i.ext - o, i.sz⟩) (H.set b { B with dead := true } ++ [⟨(B.c.drop o).take m ++ vs, i.sz, false⟩]) (w.setCells i.r (i.o + (o + m)) us) := by
 have hul := hr.1
 have hltb : b < H.length := (List.getElem?_eq_some_iff.1 hB).1
 have hk := h.kill hB
 obtain ⟨g1, g2⟩ := h.own b i B hb hB hd hlk
 have old : ∀ (x : Nat) (C : Blk), (H.set b { B with dead := true })[x]? = some C → C.dead = false → x ≠ b ∧ H[x]? = some C := by
  intro x C hC hdC
  rw [List.getElem?_set] at hC
  split at hC
  ·injection hC with hC; subst hC; simp at hdC
  ·exact ⟨Ne.symm (by assumption), hC⟩
 have hfree : ∀ x j C, μ x = some j → (H.set b { B with dead := true })[x]? = some C → C.dead = false → j.r ≠ i.r ∨ j.o + j.ext ≤ i.o ∨ i.o + i.ext ≤ j.o := by
  intro x j C hx hC hdC
  obtain ⟨hne, hC⟩ := old x C hC hdC
  rcases h.disj b x i j B C (Ne.symm hne) hb hx hB hC hd hdC hlk with g | g | g
  ·exact .inl (Ne.symm g)
  ·exact .inr (.inr g)
  ·exact .inr (.inl g)
 have hs := hk.setfree i.r (i.o + (o + m)) us (fun x j C hx hC hdC => by
  rcases hfree x j C hx hC hdC with g | g | g
  ·exact .inl g
  ·exact .inr (.inl (by omega))
  ·exact .inr (.inr (by omega)))
 have hex : ∀ j, j < us.length → ((w.cell? ⟨i.r, i.o + (o + m) + j, none⟩).isSome) = true := by
  intro j hj
  obtain ⟨v', hv⟩ := (g2 (o + m + j) (by omega)).1
  rw [show i.o + (o + m) + j = i.o + (o + m + j) by omega, hv]; rfl
 have hfin := hs.at ⟨i.r, i.o + o, i.ext - o, i.sz⟩ ((B.c.drop o).take m ++ vs) (by rw [q2z]; exact (h.lt b i hb).imp id (fun ⟨x, y⟩ => ⟨by have := h.len b i B hb hB hd; simp only; omega, by simp only; omega⟩)) g1 (by simp; omega) (by
   intro j v hj
   simp only
   by_cases h1 : j < m
   ·have hout : (w.setCells i.r (i.o + (o + m)) us).cell? ⟨i.r, i.o + o + j, none⟩ = w.cell? ⟨i.r, i.o + o + j, none⟩ := World.cell?_setCells_out _ _ _ _ _ (fun _ _ => .inl (by simp only; omega))
    rw [hout]
    rw [List.getElem?_append_left (by simp; omega), List.getElem?_take, if_pos h1, List.getElem?_drop] at hj
    rw [Nat.add_assoc]
    exact h.cell b i B hb hB hd _ v hj
   ·have hl : (List.take m (List.drop o B.c)).length = m := by simp; omega
    rw [List.getElem?_append_right (by omega), hl] at hj
    obtain ⟨v', a, c⟩ := hr.2 _ v hj
    have hjl : j - m < us.length := (List.getElem?_eq_some_iff.1 a).1
    have hin := World.cell?_setCells_in i.r us (i.o + (o + m)) w hex (j - m) hjl
    rw [show i.o + (o + m) + (j - m) = i.o + o + j by omega] at hin
    refine ⟨_, hin, ?_⟩
    rw [(List.getElem?_eq_some_iff.1 a).2]; exact c) (by
   intro j hj
   simp only at hj ⊢
   rw [World.frozen?_setCells, show i.o + o + j = i.o + (o + j) by omega]
   refine ⟨?_, (g2 (o + j) (by omega)).2⟩
   by_cases h1 : m ≤ j ∧ j < m + us.length
   ·have hin := World.cell?_setCells_in i.r us (i.o + (o + m)) w hex (j - m) (by omega)
    rw [show i.o + (o + m) + (j - m) = i.o + (o + j) by omega] at hin
    exact ⟨_, hin⟩
   ·have hout : (w.setCells i.r (i.o + (o + m)) us).cell? ⟨i.r, i.o + (o + j), none⟩ = w.cell? ⟨i.r, i.o + (o + j), none⟩ := World.cell?_setCells_out _ _ _ _ _ (fun _ _ => by simp only; omega)
    rw [hout]; exact (g2 (o + j) (by omega)).1) (fun x j C hx hC hdC => by
   have hxl := (List.getElem?_eq_some_iff.1 hC).1
   rcases hfree x j C hx hC hdC with g | g | g
   ·exact .inl g
   ·exact .inr (.inl (by simp only; omega))
   ·exact .inr (.inr (by simp only; omega)))
 simpa using hfin
end
end Gx
end
