/- Lemmas: plain facts, or contracts of functions that are reached, in the interpreter without world and addresses. -/
import Derived.Test.YtchpchjcghongaaGreatGz18
import Derived.Sort.LotC
set_option linter.all false
set_option linter.unusedVariables false
set_option linter.unusedSimpArgs false
set_option linter.unnecessarySimpa false
set_option linter.deprecated false
section
set_option autoImplicit false
namespace Gx
open Go Go.Proofs
set_option maxRecDepth 10000
section
variable {P : Program} {md : FuncId → Nat} {lk : Nat} {σ : Env} {H : Heap} {Q : Ex → Env → Heap → Prop}
/-- What holds where a loop is left. -/
def Mk (J : Env → Heap → Prop) (σ : Env) (H : Heap) [Tg J] : Prop := J σ H
theorem mk {J : Env → Heap → Prop} {σ : Env} {H : Heap} (h : J σ H) : Mk J σ H := h
/-- A loop that is left by one exit, and what holds there. -/
theorem r_loop_to {α : Type} (k : Nat) (J : Env → Heap → Prop) (m : α → Nat) (I : α → Env → Heap → Prop) {c : Code} (a0 : α) (h0 : I a0 σ H)
    (hs : ∀ a σ H, I a σ H → Runs P md lk c σ H (Round m I a (fun e σ H => e = .exit k ∧ Mk J σ H))) (hJ : ∀ σ H, J σ H → Q (.exit k) σ H) : Runs P md lk (.loop c) σ H Q :=
  (r_loop m I a0 h0 hs).mono (fun e σ H h => by obtain ⟨rfl, h⟩ := h; exact hJ _ _ h)
end
section
variable {p : Sd → Bool} {d : Array Sd} {i j : Nat}
theorem scanUp_go (h : i ≤ j) (hp : p d[i]! = true) : Go.Sort.scanUp p d j i = Go.Sort.scanUp p d j (i + 1) := by
  conv => lhs; unfold Go.Sort.scanUp
  rw [if_pos (by simp [h, hp])]
theorem scanUp_stop (h : ¬ (i ≤ j ∧ p d[i]! = true)) : Go.Sort.scanUp p d j i = i := by
  unfold Go.Sort.scanUp
  rw [if_neg (by simpa using h)]
theorem scanDown_go (h : i ≤ j) (hi : 0 < i) (hp : p d[j]! = true) : Go.Sort.scanDown p d i j = Go.Sort.scanDown p d i (j - 1) := by
  obtain ⟨u, rfl⟩ : ∃ u, j = u + 1 := ⟨j - 1, by omega⟩
  conv => lhs; unfold Go.Sort.scanDown
  rw [if_pos (by simp [h, hp])]; rfl
theorem scanDown_stop (hi : 0 < i) (h : ¬ (i ≤ j ∧ p d[j]! = true)) : Go.Sort.scanDown p d i j = j := by
  cases j with
  | zero => rfl
  | succ u =>
    unfold Go.Sort.scanDown
    rw [if_neg (by simpa using h)]
end
theorem s_part (lk : Nat) (H : Heap) (b : Nat) (d : Array Sd) (a e pv : Nat) (hap : a ≤ pv) (hpe : pv < e) (he : e ≤ d.size) (hn : d.size ≤ 100000) (hlk : lk ≤ b) (hd : AllS d) (hB : ilive H b = some ⟨cells d.toList, 4, false⟩) :
    gcall Tryz.prog md lk 284 [.slice (some ⟨b, 0, none⟩) d.size d.size, .int .i64 (a : Int), .int .i64 (e : Int), .int .i64 (pv : Int), cmpF] H = some (.tuple #[.int .i64 ((Go.Sort.partition ltS d a e pv).1 : Int), .bool (Go.Sort.partition ltS d a e pv).2.1], H.set b ⟨cells (Go.Sort.partition ltS d a e pv).2.2.toList, 4, false⟩) := by
  refine gcall_raw (by decide) (by decide) (by decide) Tryz.func284 rfl ?_
  have hset := ilive_same hB
  have hx : a < d.size := by omega
  have hy : pv < d.size := by omega
  have sx := sdg d _ hx
  have sy := sdg d _ hy
  have p1 := sdp1 d _ _ hx hy
  have p2 := sdp2 d _ _ hx hy
  have q1 := sdl d
  have q2 := sdl2 d (a) d[pv]
  have e1 : IntKind.i64.wrap ((a : Int) + 1) = ((a + 1 : Nat) : Int) := by rw [w64 (by omega) (by omega)]; omega
  have e2 : IntKind.i64.wrap ((e : Int) - 1) = ((e - 1 : Nat) : Int) := by rw [w64 (by omega) (by omega)]; omega
  simp -dsimp only [go_sem, hB, hset, sx, sy, hx, hy, p1, p2, e1, e2, List.set_set]
  refine ⟨⟨hlk, by omega⟩, ⟨hlk, by omega⟩, ?_⟩
  have hd1 := hd.swp hx hy
  have z1 : (Go.Sort.swp d a pv).size = d.size := swp_size d a pv
  have hfst : ∀ d1, Go.Sort.swp d a pv = d1 → Go.Sort.partition ltS d a e pv = (if Go.Sort.scanUp (fun x => ltS x d1[a]!) d1 (e - 1) (a + 1) > Go.Sort.scanDown (fun x => !ltS x d1[a]!) d1 (Go.Sort.scanUp (fun x => ltS x d1[a]!) d1 (e - 1) (a + 1)) (e - 1) then (Go.Sort.scanDown (fun x => !ltS x d1[a]!) d1 (Go.Sort.scanUp (fun x => ltS x d1[a]!) d1 (e - 1) (a + 1)) (e - 1), true, Go.Sort.swp d1 (Go.Sort.scanDown (fun x => !ltS x d1[a]!) d1 (Go.Sort.scanUp (fun x => ltS x d1[a]!) d1 (e - 1) (a + 1)) (e - 1)) a) else
      ((Go.Sort.partLoop ltS a (Go.Sort.scanUp (fun x => ltS x d1[a]!) d1 (e - 1) (a + 1) + 1) (Go.Sort.scanDown (fun x => !ltS x d1[a]!) d1 (Go.Sort.scanUp (fun x => ltS x d1[a]!) d1 (e - 1) (a + 1)) (e - 1) - 1) (Go.Sort.swp d1 (Go.Sort.scanUp (fun x => ltS x d1[a]!) d1 (e - 1) (a + 1)) (Go.Sort.scanDown (fun x => !ltS x d1[a]!) d1 (Go.Sort.scanUp (fun x => ltS x d1[a]!) d1 (e - 1) (a + 1)) (e - 1)))).1, false, Go.Sort.swp (Go.Sort.partLoop ltS a (Go.Sort.scanUp (fun x => ltS x d1[a]!) d1 (e - 1) (a + 1) + 1) (Go.Sort.scanDown (fun x => !ltS x d1[a]!) d1 (Go.Sort.scanUp (fun x => ltS x d1[a]!) d1 (e - 1) (a + 1)) (e - 1) - 1) (Go.Sort.swp d1 (Go.Sort.scanUp (fun x => ltS x d1[a]!) d1 (e - 1) (a + 1)) (Go.Sort.scanDown (fun x => !ltS x d1[a]!) d1 (Go.Sort.scanUp (fun x => ltS x d1[a]!) d1 (e - 1) (a + 1)) (e - 1)))).2 (Go.Sort.partLoop ltS a (Go.Sort.scanUp (fun x => ltS x d1[a]!) d1 (e - 1) (a + 1) + 1) (Go.Sort.scanDown (fun x => !ltS x d1[a]!) d1 (Go.Sort.scanUp (fun x => ltS x d1[a]!) d1 (e - 1) (a + 1)) (e - 1) - 1) (Go.Sort.swp d1 (Go.Sort.scanUp (fun x => ltS x d1[a]!) d1 (e - 1) (a + 1)) (Go.Sort.scanDown (fun x => !ltS x d1[a]!) d1 (Go.Sort.scanUp (fun x => ltS x d1[a]!) d1 (e - 1) (a + 1)) (e - 1)))).1 a)) := by
    rintro d1 rfl
    rfl
  generalize hd1e : Go.Sort.swp d a pv = d1 at *
  have hfst := hfst d1 rfl
  clear p1 p2 sx sy q1 q2
  have ha1 : a < d1.size := by omega
  have ha' : a < d.size := by omega
  have sa := sdg d1 _ ha1
  have hij : a + 1 ≤ e - 1 + 1 := by omega
  obtain ⟨j0, hj0⟩ : ∃ j0, j0 = e - 1 := ⟨_, rfl⟩
  rw [← hj0] at hfst hij
  rw [← hj0]
  obtain ⟨i0, hi0⟩ : ∃ i0, i0 = a + 1 := ⟨_, rfl⟩
  rw [← hi0] at hfst hij
  rw [← hi0]
  refine r_loop_to 0 (J := fun σ H' => ∃ i : Nat, i = Go.Sort.scanUp (fun x => ltS x d1[a]!) d1 j0 (i0) ∧ i0 ≤ i ∧ i ≤ j0 + 1 ∧ H' = H.set b ⟨cells d1.toList, 4, false⟩ ∧ σ 0 = .slice (some ⟨b, 0, none⟩) d.size d.size ∧ σ 1 = .int .i64 (a : Int) ∧ σ 4 = cmpF ∧ σ 12 = .int .i64 ((i : Nat) : Int) ∧ σ 13 = .int .i64 ((j0 : Nat) : Int)) (m := fun i : Nat => j0 + 1 - i) (I := fun (i : Nat) σ H' => i0 ≤ i ∧ i ≤ j0 + 1 ∧ Go.Sort.scanUp (fun x => ltS x d1[a]!) d1 j0 (i) = Go.Sort.scanUp (fun x => ltS x d1[a]!) d1 j0 (i0) ∧ H' = H.set b ⟨cells d1.toList, 4, false⟩ ∧ σ 0 = .slice (some ⟨b, 0, none⟩) d.size d.size ∧ σ 1 = .int .i64 (a : Int) ∧ σ 4 = cmpF ∧ σ 12 = .int .i64 ((i : Nat) : Int) ∧ σ 13 = .int .i64 ((j0 : Nat) : Int)) (i0) ⟨Nat.le_refl _, hij, rfl, rfl, rfl, rfl, rfl, rfl, rfl⟩ ?_ ?_
  · clear hfst
    rintro i σ H' ⟨i1, i2, hI, rfl, g0, g1, g4, gi, gj⟩
    by_cases c : i ≤ j0
    · have c1 : (((i : Nat) : Int) ≤ ((j0 : Nat) : Int)) = True := eq_true (by omega)
      have hx : i < d1.size := by omega
      have hx' : i < d.size := by omega
      have sx := sdg d1 _ hx
      have kc := cmpS_run hd1 hx ha1
      have e7 : IntKind.i64.wrap ((i : Int) + 1) = ((i + 1 : Nat) : Int) := by rw [w64 (by omega) (by omega)]; omega
      by_cases hl : rcmp d1[i].s d1[a].s < 0
      · have l1 : (rcmp d1[i].s d1[a].s < 0) = True := eq_true hl
        simp -dsimp only [go_sem, g0, g1, g4, gi, gj, c1, hset, sx, sa, hx', ha', kc, l1, e7]
        exact next (i + 1) (by show _ < _; omega) ⟨by omega, by omega, by rw [← hI, scanUp_go c (by simp only [ltS_bang d1 hx ha1]; simp [hl])], rfl, g0, g1, g4, rfl, gj⟩
      · have l1 : (rcmp d1[i].s d1[a].s < 0) = False := eq_false hl
        simp -dsimp only [go_sem, g0, g1, g4, gi, gj, c1, hset, sx, sa, hx', ha', kc, l1]
        exact mk ⟨i, by rw [← hI, scanUp_stop (fun h => by have := h.2; simp only [ltS_bang d1 hx ha1] at this; simp [l1] at this)], by omega, by omega, rfl, g0, g1, g4, gi, gj⟩
    · have c1 : (((i : Nat) : Int) ≤ ((j0 : Nat) : Int)) = False := eq_false (by omega)
      simp -dsimp only [go_sem, gi, gj, c1]
      exact mk ⟨i, by rw [← hI, scanUp_stop (fun h => c h.1)], by omega, by omega, rfl, g0, g1, g4, gi, gj⟩
  rintro σ H' ⟨i, hi, ii1, ii2, rfl, g0, g1, g4, gi, gj⟩
  simp -dsimp only [go_sem]
  have hipos : 0 < i := by omega
  have hij : i ≤ j0 + 1 := ii2
  refine r_loop_to 2 (J := fun σ H' => ∃ j : Nat, j = Go.Sort.scanDown (fun x => !ltS x d1[a]!) d1 i (j0) ∧ j ≤ j0 ∧ i ≤ j + 1 ∧ H' = H.set b ⟨cells d1.toList, 4, false⟩ ∧ σ 0 = .slice (some ⟨b, 0, none⟩) d.size d.size ∧ σ 1 = .int .i64 (a : Int) ∧ σ 4 = cmpF ∧ σ 12 = .int .i64 ((i : Nat) : Int) ∧ σ 13 = .int .i64 ((j : Nat) : Int)) (m := fun j : Nat => j) (I := fun (j : Nat) σ H' => j ≤ j0 ∧ i ≤ j + 1 ∧ Go.Sort.scanDown (fun x => !ltS x d1[a]!) d1 i (j) = Go.Sort.scanDown (fun x => !ltS x d1[a]!) d1 i (j0) ∧ H' = H.set b ⟨cells d1.toList, 4, false⟩ ∧ σ 0 = .slice (some ⟨b, 0, none⟩) d.size d.size ∧ σ 1 = .int .i64 (a : Int) ∧ σ 4 = cmpF ∧ σ 12 = .int .i64 ((i : Nat) : Int) ∧ σ 13 = .int .i64 ((j : Nat) : Int)) (j0) ⟨Nat.le_refl _, hij, rfl, rfl, g0, g1, g4, gi, gj⟩ ?_ ?_
  · clear g0 g1 g4 gi gj
    rintro j σ H' ⟨i1, i2, hI, rfl, g0, g1, g4, gi, gj⟩
    by_cases c : i ≤ j
    · have c1 : (((i : Nat) : Int) ≤ ((j : Nat) : Int)) = True := eq_true (by omega)
      have hx : j < d1.size := by omega
      have hx' : j < d.size := by omega
      have sx := sdg d1 _ hx
      have kc := cmpS_run hd1 hx ha1
      have e7 : IntKind.i64.wrap ((j : Int) - 1) = ((j - 1 : Nat) : Int) := by rw [w64 (by omega) (by omega)]; omega
      by_cases hl : ¬ rcmp d1[j].s d1[a].s < 0
      · have l1 : (rcmp d1[j].s d1[a].s < 0) = False := eq_false hl
        simp -dsimp only [go_sem, g0, g1, g4, gi, gj, c1, hset, sx, sa, hx', ha', kc, l1, e7]
        exact next (j - 1) (by show _ < _; omega) ⟨by omega, by omega, by rw [← hI, scanDown_go c hipos (by simp only [ltS_bang d1 hx ha1]; simp [hl])], rfl, g0, g1, g4, gi, rfl⟩
      · have l1 : (rcmp d1[j].s d1[a].s < 0) = True := eq_true (Classical.not_not.1 hl)
        simp -dsimp only [go_sem, g0, g1, g4, gi, gj, c1, hset, sx, sa, hx', ha', kc, l1]
        exact mk ⟨j, by rw [← hI, scanDown_stop hipos (fun h => by have := h.2; simp only [ltS_bang d1 hx ha1] at this; simp [l1] at this)], by omega, by omega, rfl, g0, g1, g4, gi, gj⟩
    · have c1 : (((i : Nat) : Int) ≤ ((j : Nat) : Int)) = False := eq_false (by omega)
      simp -dsimp only [go_sem, gi, gj, c1]
      exact mk ⟨j, by rw [← hI, scanDown_stop hipos (fun h => c h.1)], by omega, by omega, rfl, g0, g1, g4, gi, gj⟩
  clear g0 g1 g4 gi gj
  rintro σ H' ⟨j, hj, jj1, jj2, rfl, g0, g1, g4, gi, gj⟩
  rw [← hi, ← hj] at hfst
  have hja : a ≤ j := by omega
  have hy : j < d1.size := by omega
  have hy' : j < d.size := by omega
  have sy := sdg d1 _ hy
  by_cases hgt : i > j
  · have c1 : ((j : Int) < (i : Int)) = True := eq_true (by omega)
    rw [if_pos hgt] at hfst
    rw [hfst]
    have p1 := sdp1 d1 _ _ hy ha1
    have p2 := sdp2 d1 _ _ hy ha1
    have q1 := sdl d1
    have q2 := sdl2 d1 (j) d1[a]
    simp -dsimp only [go_sem, g0, g1, g4, gi, gj, c1, hset, sa, sy, ha', hy', p1, p2, List.set_set]
    exact ⟨⟨hlk, by omega⟩, hlk, by omega⟩
  · have c1 : ((j : Int) < (i : Int)) = False := eq_false (by omega)
    rw [if_neg hgt] at hfst
    rw [hfst]
    have hx : i < d1.size := by omega
    have hx' : i < d.size := by omega
    have sx := sdg d1 _ hx
    have p1 := sdp1 d1 _ _ hx hy
    have p2 := sdp2 d1 _ _ hx hy
    have q1 := sdl d1
    have q2 := sdl2 d1 (i) d1[j]
    have u4 := (Go.Sort.scanUp_spec (fun x => ltS x d1[a]!) d1 j0 _ i0 rfl).2.2.2
    have v4 := (Go.Sort.scanDown_spec (fun x => !ltS x d1[a]!) d1 i j0).2.2.2
    rw [← hi] at u4
    rw [← hj] at v4
    have hne : i ≠ j := by
      rintro rfl
      have h1 := u4 (by omega)
      have h2 := v4 (by omega) (by omega)
      rw [h1] at h2
      exact absurd h2 (by decide)
    have e7 : IntKind.i64.wrap ((i : Int) + 1) = ((i + 1 : Nat) : Int) := by rw [w64 (by omega) (by omega)]; omega
    have e8 : IntKind.i64.wrap ((j : Int) - 1) = ((j - 1 : Nat) : Int) := by rw [w64 (by omega) (by omega)]; omega
    simp -dsimp only [go_sem, g0, g1, g4, gi, gj, c1, hset, sx, sy, hx', hy', p1, p2, e7, e8, List.set_set]
    refine ⟨⟨hlk, by omega⟩, ⟨hlk, by omega⟩, ?_⟩
    have hd2 := hd1.swp hx hy
    have z2 : (Go.Sort.swp d1 i j).size = d.size := by rw [swp_size]; exact z1
    have k1 : i + 1 ≤ (j - 1) + 1 := by omega
    have k2 : a < i + 1 := by omega
    have k3 : j - 1 < e := by omega
    generalize Go.Sort.swp d1 i j = d2 at *
    generalize i + 1 = i0' at *
    generalize j - 1 = j0' at *
    clear hfst u4 v4 p1 p2 q1 q2 hne c1 hgt hj hi hij hipos hja e7 e8
    refine r_loop_to 4 (J := fun σ H' => ∃ (j : Nat) (d3 : Array Sd), (j, d3) = Go.Sort.partLoop ltS a i0' j0' d2 ∧ a ≤ j ∧ j < e ∧ d3.size = d.size ∧ AllS d3 ∧ H' = H.set b ⟨cells d3.toList, 4, false⟩ ∧ σ 0 = .slice (some ⟨b, 0, none⟩) d.size d.size ∧ σ 1 = .int .i64 (a : Int) ∧ σ 13 = .int .i64 (j : Int)) (m := fun s : Nat × Nat × Array Sd => s.2.1 + 1 - s.1) (I := fun (s : Nat × Nat × Array Sd) σ H' => a < s.1 ∧ s.1 ≤ s.2.1 + 1 ∧ s.2.1 < e ∧ s.2.2.size = d.size ∧ AllS s.2.2 ∧ Go.Sort.partLoop ltS a s.1 s.2.1 s.2.2 = Go.Sort.partLoop ltS a i0' j0' d2 ∧ H' = H.set b ⟨cells s.2.2.toList, 4, false⟩ ∧ σ 0 = .slice (some ⟨b, 0, none⟩) d.size d.size ∧ σ 1 = .int .i64 (a : Int) ∧ σ 4 = cmpF ∧ σ 12 = .int .i64 (s.1 : Int) ∧ σ 13 = .int .i64 (s.2.1 : Int)) (i0', j0', d2) ⟨k2, k1, k3, z2, hd2, rfl, rfl, g0, g1, g4, rfl, rfl⟩ ?_ ?_
    · clear g0 g1 g4 gi gj hd2 z2 k1 k2 k3
      rintro ⟨i0, j0, d1⟩ σ H' ⟨k2, hij, k3, z1, hd1, hI, rfl, g0, g1, g4, gi, gj⟩
      simp only [] at k2 hij k3 z1 hd1 hI gi gj
      have ha1 : a < d1.size := by omega
      have sa := sdg d1 _ ha1
      rw [Go.Sort.partLoop_eq] at hI
      simp -dsimp only [go_sem]
      refine r_loop_to 6 (J := fun σ H' => ∃ i : Nat, i = Go.Sort.scanUp (fun x => ltS x d1[a]!) d1 j0 (i0) ∧ i0 ≤ i ∧ i ≤ j0 + 1 ∧ H' = H.set b ⟨cells d1.toList, 4, false⟩ ∧ σ 0 = .slice (some ⟨b, 0, none⟩) d.size d.size ∧ σ 1 = .int .i64 (a : Int) ∧ σ 4 = cmpF ∧ σ 12 = .int .i64 ((i : Nat) : Int) ∧ σ 13 = .int .i64 ((j0 : Nat) : Int)) (m := fun i : Nat => j0 + 1 - i) (I := fun (i : Nat) σ H' => i0 ≤ i ∧ i ≤ j0 + 1 ∧ Go.Sort.scanUp (fun x => ltS x d1[a]!) d1 j0 (i) = Go.Sort.scanUp (fun x => ltS x d1[a]!) d1 j0 (i0) ∧ H' = H.set b ⟨cells d1.toList, 4, false⟩ ∧ σ 0 = .slice (some ⟨b, 0, none⟩) d.size d.size ∧ σ 1 = .int .i64 (a : Int) ∧ σ 4 = cmpF ∧ σ 12 = .int .i64 ((i : Nat) : Int) ∧ σ 13 = .int .i64 ((j0 : Nat) : Int)) (i0) ⟨Nat.le_refl _, hij, rfl, rfl, g0, g1, g4, gi, gj⟩ ?_ ?_
      · clear g0 g1 g4 gi gj hI
        rintro i σ H' ⟨i1, i2, hI, rfl, g0, g1, g4, gi, gj⟩
        by_cases c : i ≤ j0
        · have c1 : (((i : Nat) : Int) ≤ ((j0 : Nat) : Int)) = True := eq_true (by omega)
          have hx : i < d1.size := by omega
          have hx' : i < d.size := by omega
          have sx := sdg d1 _ hx
          have kc := cmpS_run hd1 hx ha1
          have e7 : IntKind.i64.wrap ((i : Int) + 1) = ((i + 1 : Nat) : Int) := by rw [w64 (by omega) (by omega)]; omega
          by_cases hl : rcmp d1[i].s d1[a].s < 0
          · have l1 : (rcmp d1[i].s d1[a].s < 0) = True := eq_true hl
            simp -dsimp only [go_sem, g0, g1, g4, gi, gj, c1, hset, sx, sa, hx', ha', kc, l1, e7]
            exact next (i + 1) (by show _ < _; omega) ⟨by omega, by omega, by rw [← hI, scanUp_go c (by simp only [ltS_bang d1 hx ha1]; simp [hl])], rfl, g0, g1, g4, rfl, gj⟩
          · have l1 : (rcmp d1[i].s d1[a].s < 0) = False := eq_false hl
            simp -dsimp only [go_sem, g0, g1, g4, gi, gj, c1, hset, sx, sa, hx', ha', kc, l1]
            exact mk ⟨i, by rw [← hI, scanUp_stop (fun h => by have := h.2; simp only [ltS_bang d1 hx ha1] at this; simp [l1] at this)], by omega, by omega, rfl, g0, g1, g4, gi, gj⟩
        · have c1 : (((i : Nat) : Int) ≤ ((j0 : Nat) : Int)) = False := eq_false (by omega)
          simp -dsimp only [go_sem, gi, gj, c1]
          exact mk ⟨i, by rw [← hI, scanUp_stop (fun h => c h.1)], by omega, by omega, rfl, g0, g1, g4, gi, gj⟩
      clear g0 g1 g4 gi gj
      rintro σ H' ⟨i, hi, ii1, ii2, rfl, g0, g1, g4, gi, gj⟩
      simp -dsimp only [go_sem]
      have hipos : 0 < i := by omega
      have hij : i ≤ j0 + 1 := ii2
      refine r_loop_to 8 (J := fun σ H' => ∃ j : Nat, j = Go.Sort.scanDown (fun x => !ltS x d1[a]!) d1 i (j0) ∧ j ≤ j0 ∧ i ≤ j + 1 ∧ H' = H.set b ⟨cells d1.toList, 4, false⟩ ∧ σ 0 = .slice (some ⟨b, 0, none⟩) d.size d.size ∧ σ 1 = .int .i64 (a : Int) ∧ σ 4 = cmpF ∧ σ 12 = .int .i64 ((i : Nat) : Int) ∧ σ 13 = .int .i64 ((j : Nat) : Int)) (m := fun j : Nat => j) (I := fun (j : Nat) σ H' => j ≤ j0 ∧ i ≤ j + 1 ∧ Go.Sort.scanDown (fun x => !ltS x d1[a]!) d1 i (j) = Go.Sort.scanDown (fun x => !ltS x d1[a]!) d1 i (j0) ∧ H' = H.set b ⟨cells d1.toList, 4, false⟩ ∧ σ 0 = .slice (some ⟨b, 0, none⟩) d.size d.size ∧ σ 1 = .int .i64 (a : Int) ∧ σ 4 = cmpF ∧ σ 12 = .int .i64 ((i : Nat) : Int) ∧ σ 13 = .int .i64 ((j : Nat) : Int)) (j0) ⟨Nat.le_refl _, hij, rfl, rfl, g0, g1, g4, gi, gj⟩ ?_ ?_
      · clear g0 g1 g4 gi gj hI
        rintro j σ H' ⟨i1, i2, hI, rfl, g0, g1, g4, gi, gj⟩
        by_cases c : i ≤ j
        · have c1 : (((i : Nat) : Int) ≤ ((j : Nat) : Int)) = True := eq_true (by omega)
          have hx : j < d1.size := by omega
          have hx' : j < d.size := by omega
          have sx := sdg d1 _ hx
          have kc := cmpS_run hd1 hx ha1
          have e7 : IntKind.i64.wrap ((j : Int) - 1) = ((j - 1 : Nat) : Int) := by rw [w64 (by omega) (by omega)]; omega
          by_cases hl : ¬ rcmp d1[j].s d1[a].s < 0
          · have l1 : (rcmp d1[j].s d1[a].s < 0) = False := eq_false hl
            simp -dsimp only [go_sem, g0, g1, g4, gi, gj, c1, hset, sx, sa, hx', ha', kc, l1, e7]
            exact next (j - 1) (by show _ < _; omega) ⟨by omega, by omega, by rw [← hI, scanDown_go c hipos (by simp only [ltS_bang d1 hx ha1]; simp [hl])], rfl, g0, g1, g4, gi, rfl⟩
          · have l1 : (rcmp d1[j].s d1[a].s < 0) = True := eq_true (Classical.not_not.1 hl)
            simp -dsimp only [go_sem, g0, g1, g4, gi, gj, c1, hset, sx, sa, hx', ha', kc, l1]
            exact mk ⟨j, by rw [← hI, scanDown_stop hipos (fun h => by have := h.2; simp only [ltS_bang d1 hx ha1] at this; simp [l1] at this)], by omega, by omega, rfl, g0, g1, g4, gi, gj⟩
        · have c1 : (((i : Nat) : Int) ≤ ((j : Nat) : Int)) = False := eq_false (by omega)
          simp -dsimp only [go_sem, gi, gj, c1]
          exact mk ⟨j, by rw [← hI, scanDown_stop hipos (fun h => c h.1)], by omega, by omega, rfl, g0, g1, g4, gi, gj⟩
      clear g0 g1 g4 gi gj
      rintro σ H' ⟨j, hj, jj1, jj2, rfl, g0, g1, g4, gi, gj⟩
      rw [← hi, ← hj] at hI
      have hy : j < d1.size := by omega
      have hy' : j < d.size := by omega
      have sy := sdg d1 _ hy
      by_cases hgt : i > j
      · have c1 : ((j : Int) < (i : Int)) = True := eq_true (by omega)
        rw [if_pos hgt] at hI
        simp -dsimp only [go_sem, gi, gj, c1]
        exact mk ⟨j, d1, hI, by omega, by omega, z1, hd1, rfl, g0, g1, gj⟩
      · have c1 : ((j : Int) < (i : Int)) = False := eq_false (by omega)
        rw [if_neg hgt] at hI
        have hx : i < d1.size := by omega
        have hx' : i < d.size := by omega
        have sx := sdg d1 _ hx
        have p1 := sdp1 d1 _ _ hx hy
        have p2 := sdp2 d1 _ _ hx hy
        have q1 := sdl d1
        have q2 := sdl2 d1 (i) d1[j]
        have u4 := (Go.Sort.scanUp_spec (fun x => ltS x d1[a]!) d1 j0 _ i0 rfl).2.2.2
        have v4 := (Go.Sort.scanDown_spec (fun x => !ltS x d1[a]!) d1 i j0).2.2.2
        rw [← hi] at u4
        rw [← hj] at v4
        have hne : i ≠ j := by
          rintro rfl
          have h1 := u4 (by omega)
          have h2 := v4 (by omega) (by omega)
          rw [h1] at h2
          exact absurd h2 (by decide)
        have e7 : IntKind.i64.wrap ((i : Int) + 1) = ((i + 1 : Nat) : Int) := by rw [w64 (by omega) (by omega)]; omega
        have e8 : IntKind.i64.wrap ((j : Int) - 1) = ((j - 1 : Nat) : Int) := by rw [w64 (by omega) (by omega)]; omega
        simp -dsimp only [go_sem, g0, g1, g4, gi, gj, c1, hset, sx, sy, hx', hy', p1, p2, e7, e8, List.set_set]
        exact ⟨⟨hlk, by omega⟩, ⟨hlk, by omega⟩, next (i + 1, j - 1, Go.Sort.swp d1 i j) (by show j - 1 + 1 - (i + 1) < j0 + 1 - i0; omega) ⟨by simp only []; omega, by simp only []; omega, by simp only []; omega, by simp only []; rw [swp_size]; exact z1, hd1.swp hx hy, hI, rfl, g0, g1, g4, rfl, rfl⟩⟩
    · clear g0 g1 g4 gi gj
      rintro σ H' ⟨j, d3, hr, jj1, jj2, z3, hd3, rfl, g0, g1, gj⟩
      rw [← hr]
      have hy : j < d3.size := by omega
      have hy' : j < d.size := by omega
      have ha3 : a < d3.size := by omega
      have sa := sdg d3 _ ha3
      have sy := sdg d3 _ hy
      have p1 := sdp1 d3 _ _ hy ha3
      have p2 := sdp2 d3 _ _ hy ha3
      have q1 := sdl d3
      have q2 := sdl2 d3 (j) d3[a]
      simp -dsimp only [go_sem, g0, g1, gj, hset, sa, sy, ha', hy', p1, p2, List.set_set]
      exact ⟨⟨hlk, by omega⟩, hlk, by omega⟩
end Gx
end
section
set_option autoImplicit false
namespace Gx
open Go Go.Proofs
set_option maxRecDepth 10000
theorem s_partEq (lk : Nat) (H : Heap) (b : Nat) (d : Array Sd) (a e pv : Nat) (hap : a ≤ pv) (hpe : pv < e) (he : e ≤ d.size) (hn : d.size ≤ 100000) (hlk : lk ≤ b) (hd : AllS d) (hB : ilive H b = some ⟨cells d.toList, 4, false⟩) :
    gcall Tryz.prog md lk 283 [.slice (some ⟨b, 0, none⟩) d.size d.size, .int .i64 (a : Int), .int .i64 (e : Int), .int .i64 (pv : Int), cmpF] H = some (.int .i64 ((Go.Sort.partitionEqual ltS d a e pv).1 : Int), H.set b ⟨cells (Go.Sort.partitionEqual ltS d a e pv).2.toList, 4, false⟩) := by
  refine gcall_raw (by decide) (by decide) (by decide) Tryz.func283 rfl ?_
  have hset := ilive_same hB
  have hx : a < d.size := by omega
  have hy : pv < d.size := by omega
  have sx := sdg d _ hx
  have sy := sdg d _ hy
  have p1 := sdp1 d _ _ hx hy
  have p2 := sdp2 d _ _ hx hy
  have q1 := sdl d
  have q2 := sdl2 d (a) d[pv]
  have e1 : IntKind.i64.wrap ((a : Int) + 1) = ((a + 1 : Nat) : Int) := by rw [w64 (by omega) (by omega)]; omega
  have e2 : IntKind.i64.wrap ((e : Int) - 1) = ((e - 1 : Nat) : Int) := by rw [w64 (by omega) (by omega)]; omega
  simp -dsimp only [go_sem, hB, hset, sx, sy, hx, hy, p1, p2, e1, e2, List.set_set]
  refine ⟨⟨hlk, by omega⟩, ⟨hlk, by omega⟩, ?_⟩
  have hd2 := hd.swp hx hy
  have z2 : (Go.Sort.swp d a pv).size = d.size := swp_size d a pv
  rw [show Go.Sort.partitionEqual ltS d a e pv = Go.Sort.partEqLoop ltS a (a + 1) (e - 1) (Go.Sort.swp d a pv) from rfl]
  generalize Go.Sort.swp d a pv = d2 at *
  clear p1 p2 sx sy q1 q2
  have ha' : a < d.size := by omega
  have k1 : a + 1 ≤ (e - 1) + 1 := by omega
  have k2 : a < a + 1 := by omega
  have k3 : e - 1 < e := by omega
  generalize a + 1 = i0' at *
  generalize e - 1 = j0' at *
  refine r_loop_to 0 (J := fun σ H' => ∃ (i : Nat) (d3 : Array Sd), (i, d3) = Go.Sort.partEqLoop ltS a i0' j0' d2 ∧ H' = H.set b ⟨cells d3.toList, 4, false⟩ ∧ σ 11 = .int .i64 (i : Int)) (m := fun s : Nat × Nat × Array Sd => s.2.1 + 1 - s.1) (I := fun (s : Nat × Nat × Array Sd) σ H' => a < s.1 ∧ s.1 ≤ s.2.1 + 1 ∧ s.2.1 < e ∧ s.2.2.size = d.size ∧ AllS s.2.2 ∧ Go.Sort.partEqLoop ltS a s.1 s.2.1 s.2.2 = Go.Sort.partEqLoop ltS a i0' j0' d2 ∧ H' = H.set b ⟨cells s.2.2.toList, 4, false⟩ ∧ σ 0 = .slice (some ⟨b, 0, none⟩) d.size d.size ∧ σ 1 = .int .i64 (a : Int) ∧ σ 4 = cmpF ∧ σ 11 = .int .i64 (s.1 : Int) ∧ σ 12 = .int .i64 (s.2.1 : Int)) (i0', j0', d2) ⟨k2, k1, k3, z2, hd2, rfl, rfl, rfl, rfl, rfl, rfl, rfl⟩ ?_ ?_
  · clear hd2 z2 k1 k2 k3
    rintro ⟨i0, j0, d1⟩ σ H' ⟨k2, hij, k3, z1, hd1, hI, rfl, g0, g1, g4, gi, gj⟩
    simp only [] at k2 hij k3 z1 hd1 hI gi gj
    have ha1 : a < d1.size := by omega
    have sa := sdg d1 _ ha1
    rw [Go.Sort.partEqLoop_eq] at hI
    simp -dsimp only [go_sem]
    refine r_loop_to 2 (J := fun σ H' => ∃ i : Nat, i = Go.Sort.scanUp (fun x => !ltS d1[a]! x) d1 j0 (i0) ∧ i0 ≤ i ∧ i ≤ j0 + 1 ∧ H' = H.set b ⟨cells d1.toList, 4, false⟩ ∧ σ 0 = .slice (some ⟨b, 0, none⟩) d.size d.size ∧ σ 1 = .int .i64 (a : Int) ∧ σ 4 = cmpF ∧ σ 11 = .int .i64 ((i : Nat) : Int) ∧ σ 12 = .int .i64 ((j0 : Nat) : Int)) (m := fun i : Nat => j0 + 1 - i) (I := fun (i : Nat) σ H' => i0 ≤ i ∧ i ≤ j0 + 1 ∧ Go.Sort.scanUp (fun x => !ltS d1[a]! x) d1 j0 (i) = Go.Sort.scanUp (fun x => !ltS d1[a]! x) d1 j0 (i0) ∧ H' = H.set b ⟨cells d1.toList, 4, false⟩ ∧ σ 0 = .slice (some ⟨b, 0, none⟩) d.size d.size ∧ σ 1 = .int .i64 (a : Int) ∧ σ 4 = cmpF ∧ σ 11 = .int .i64 ((i : Nat) : Int) ∧ σ 12 = .int .i64 ((j0 : Nat) : Int)) (i0) ⟨Nat.le_refl _, hij, rfl, rfl, g0, g1, g4, gi, gj⟩ ?_ ?_
    · clear g0 g1 g4 gi gj hI
      rintro i σ H' ⟨i1, i2, hI, rfl, g0, g1, g4, gi, gj⟩
      by_cases c : i ≤ j0
      · have c1 : (((i : Nat) : Int) ≤ ((j0 : Nat) : Int)) = True := eq_true (by omega)
        have hx : i < d1.size := by omega
        have hx' : i < d.size := by omega
        have sx := sdg d1 _ hx
        have kc := cmpS_run hd1 ha1 hx
        have e7 : IntKind.i64.wrap ((i : Int) + 1) = ((i + 1 : Nat) : Int) := by rw [w64 (by omega) (by omega)]; omega
        by_cases hl : ¬ rcmp d1[a].s d1[i].s < 0
        · have l1 : (rcmp d1[a].s d1[i].s < 0) = False := eq_false hl
          simp -dsimp only [go_sem, g0, g1, g4, gi, gj, c1, hset, sx, sa, hx', ha', kc, l1, e7]
          exact next (i + 1) (by show _ < _; omega) ⟨by omega, by omega, by rw [← hI, scanUp_go c (by simp only [ltS_bang d1 ha1 hx]; simp [hl])], rfl, g0, g1, g4, rfl, gj⟩
        · have l1 : (rcmp d1[a].s d1[i].s < 0) = True := eq_true (Classical.not_not.1 hl)
          simp -dsimp only [go_sem, g0, g1, g4, gi, gj, c1, hset, sx, sa, hx', ha', kc, l1]
          exact mk ⟨i, by rw [← hI, scanUp_stop (fun h => by have := h.2; simp only [ltS_bang d1 ha1 hx] at this; simp [l1] at this)], by omega, by omega, rfl, g0, g1, g4, gi, gj⟩
      · have c1 : (((i : Nat) : Int) ≤ ((j0 : Nat) : Int)) = False := eq_false (by omega)
        simp -dsimp only [go_sem, gi, gj, c1]
        exact mk ⟨i, by rw [← hI, scanUp_stop (fun h => c h.1)], by omega, by omega, rfl, g0, g1, g4, gi, gj⟩
    clear g0 g1 g4 gi gj
    rintro σ H' ⟨i, hi, ii1, ii2, rfl, g0, g1, g4, gi, gj⟩
    simp -dsimp only [go_sem]
    have hipos : 0 < i := by omega
    have hij : i ≤ j0 + 1 := ii2
    refine r_loop_to 4 (J := fun σ H' => ∃ j : Nat, j = Go.Sort.scanDown (fun x => ltS d1[a]! x) d1 i (j0) ∧ j ≤ j0 ∧ i ≤ j + 1 ∧ H' = H.set b ⟨cells d1.toList, 4, false⟩ ∧ σ 0 = .slice (some ⟨b, 0, none⟩) d.size d.size ∧ σ 1 = .int .i64 (a : Int) ∧ σ 4 = cmpF ∧ σ 11 = .int .i64 ((i : Nat) : Int) ∧ σ 12 = .int .i64 ((j : Nat) : Int)) (m := fun j : Nat => j) (I := fun (j : Nat) σ H' => j ≤ j0 ∧ i ≤ j + 1 ∧ Go.Sort.scanDown (fun x => ltS d1[a]! x) d1 i (j) = Go.Sort.scanDown (fun x => ltS d1[a]! x) d1 i (j0) ∧ H' = H.set b ⟨cells d1.toList, 4, false⟩ ∧ σ 0 = .slice (some ⟨b, 0, none⟩) d.size d.size ∧ σ 1 = .int .i64 (a : Int) ∧ σ 4 = cmpF ∧ σ 11 = .int .i64 ((i : Nat) : Int) ∧ σ 12 = .int .i64 ((j : Nat) : Int)) (j0) ⟨Nat.le_refl _, hij, rfl, rfl, g0, g1, g4, gi, gj⟩ ?_ ?_
    · clear g0 g1 g4 gi gj hI
      rintro j σ H' ⟨i1, i2, hI, rfl, g0, g1, g4, gi, gj⟩
      by_cases c : i ≤ j
      · have c1 : (((i : Nat) : Int) ≤ ((j : Nat) : Int)) = True := eq_true (by omega)
        have hx : j < d1.size := by omega
        have hx' : j < d.size := by omega
        have sx := sdg d1 _ hx
        have kc := cmpS_run hd1 ha1 hx
        have e7 : IntKind.i64.wrap ((j : Int) - 1) = ((j - 1 : Nat) : Int) := by rw [w64 (by omega) (by omega)]; omega
        by_cases hl : rcmp d1[a].s d1[j].s < 0
        · have l1 : (rcmp d1[a].s d1[j].s < 0) = True := eq_true hl
          simp -dsimp only [go_sem, g0, g1, g4, gi, gj, c1, hset, sx, sa, hx', ha', kc, l1, e7]
          exact next (j - 1) (by show _ < _; omega) ⟨by omega, by omega, by rw [← hI, scanDown_go c hipos (by simp only [ltS_bang d1 ha1 hx]; simp [hl])], rfl, g0, g1, g4, gi, rfl⟩
        · have l1 : (rcmp d1[a].s d1[j].s < 0) = False := eq_false hl
          simp -dsimp only [go_sem, g0, g1, g4, gi, gj, c1, hset, sx, sa, hx', ha', kc, l1]
          exact mk ⟨j, by rw [← hI, scanDown_stop hipos (fun h => by have := h.2; simp only [ltS_bang d1 ha1 hx] at this; simp [l1] at this)], by omega, by omega, rfl, g0, g1, g4, gi, gj⟩
      · have c1 : (((i : Nat) : Int) ≤ ((j : Nat) : Int)) = False := eq_false (by omega)
        simp -dsimp only [go_sem, gi, gj, c1]
        exact mk ⟨j, by rw [← hI, scanDown_stop hipos (fun h => c h.1)], by omega, by omega, rfl, g0, g1, g4, gi, gj⟩
    clear g0 g1 g4 gi gj
    rintro σ H' ⟨j, hj, jj1, jj2, rfl, g0, g1, g4, gi, gj⟩
    rw [← hi, ← hj] at hI
    have hy : j < d1.size := by omega
    have hy' : j < d.size := by omega
    have sy := sdg d1 _ hy
    by_cases hgt : i > j
    · have c1 : ((j : Int) < (i : Int)) = True := eq_true (by omega)
      rw [if_pos hgt] at hI
      simp -dsimp only [go_sem, gi, gj, c1]
      exact mk ⟨i, d1, hI, rfl, gi⟩
    · have c1 : ((j : Int) < (i : Int)) = False := eq_false (by omega)
      rw [if_neg hgt] at hI
      have hx : i < d1.size := by omega
      have hx' : i < d.size := by omega
      have sx := sdg d1 _ hx
      have p1 := sdp1 d1 _ _ hx hy
      have p2 := sdp2 d1 _ _ hx hy
      have q1 := sdl d1
      have q2 := sdl2 d1 (i) d1[j]
      have u4 := (Go.Sort.scanUp_spec (fun x => !ltS d1[a]! x) d1 j0 _ i0 rfl).2.2.2
      have v4 := (Go.Sort.scanDown_spec (fun x => ltS d1[a]! x) d1 i j0).2.2.2
      rw [← hi] at u4
      rw [← hj] at v4
      have hne : i ≠ j := by
        rintro rfl
        have h1 := u4 (by omega)
        have h2 := v4 (by omega) (by omega)
        rw [h2] at h1
        exact absurd h1 (by decide)
      have e7 : IntKind.i64.wrap ((i : Int) + 1) = ((i + 1 : Nat) : Int) := by rw [w64 (by omega) (by omega)]; omega
      have e8 : IntKind.i64.wrap ((j : Int) - 1) = ((j - 1 : Nat) : Int) := by rw [w64 (by omega) (by omega)]; omega
      simp -dsimp only [go_sem, g0, g1, g4, gi, gj, c1, hset, sx, sy, hx', hy', p1, p2, e7, e8, List.set_set]
      exact ⟨⟨hlk, by omega⟩, ⟨hlk, by omega⟩, next (i + 1, j - 1, Go.Sort.swp d1 i j) (by show j - 1 + 1 - (i + 1) < j0 + 1 - i0; omega) ⟨by simp only []; omega, by simp only []; omega, by simp only []; omega, by simp only []; rw [swp_size]; exact z1, hd1.swp hx hy, hI, rfl, g0, g1, g4, rfl, rfl⟩⟩
  · rintro σ H' ⟨i, d3, hr, rfl, gi⟩
    rw [← hr]
    simp -dsimp only [go_sem, gi]
end Gx
end
