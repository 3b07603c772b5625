/- Lemmas: plain facts, or contracts of functions that are reached, in the interpreter without world and addresses. -/
import Derived.Test.YtchpchjcghongaaGreatGz17
import Derived.Sort.Statements
set_option linter.all false
set_option linter.unusedVariables false
set_option linter.unusedSimpArgs false
set_option linter.unnecessarySimpa false
set_option linter.deprecated false
section
set_option autoImplicit false
namespace Gx
open Go Go.Proofs
set_option maxRecDepth 10000
instance : Inhabited Sd := ⟨⟨0, 0⟩⟩
def ltS (x y : Sd) : Bool := decide (rcmp x.s y.s < 0)
/-- The numbers of a side are not long. -/
def ShS (x : Sd) : Prop := (bytes x.s.num.natAbs).length < 1000000 ∧ (bytes x.s.den).length < 1000000
abbrev cmpF : Value := .func (.func 149) #[] #[]
theorem bang_get (d : Array Sd) (i : Nat) (h : i < d.size) : d[i]! = d[i] := getElem!_pos d i h
theorem set_same {H : Heap} {b : Nat} {B : Blk} (h : ilive H b = some B) : H.set b B = H := by
  apply List.ext_getElem?
  intro j
  rw [List.getElem?_set]
  by_cases hj : b = j
  · subst hj
    have := ilive_get h
    rw [if_pos rfl, this]
    have hl := ilive_lt h
    rw [if_pos hl]
  · rw [if_neg hj]
theorem ltS_run (lk : Nat) (H : Heap) (x y : Sd) (hx : ShS x) (hy : ShS y) : gcall Tryz.prog md lk 149 [vSd x, vSd y] H = some (.int .i64 (rcmp x.s y.s), H) := p_SumCmp lk H x y hx.1 hy.1 hx.2 hy.2
theorem swp_list (d : Array Sd) (i j : Nat) (hi : i < d.size) (hj : j < d.size) : (Go.Sort.swp d i j).toList = (d.toList.set i d[j]).set j d[i] := by
  unfold Go.Sort.swp
  rw [bang_get d j hj, bang_get d i hi, Array.toList_setIfInBounds, Array.toList_setIfInBounds]
theorem swp_size (d : Array Sd) (i j : Nat) : (Go.Sort.swp d i j).size = d.size := by
  unfold Go.Sort.swp; simp
end Gx
end
section
set_option autoImplicit false
namespace Gx
open Go Go.Proofs
set_option maxRecDepth 10000
theorem sd_isub (l : List Sd) (i : Nat) (h : i < l.length) : isub (cells l) (i * 4) 4 = some [.bool (decide (l[i].s.num < 0)), .string (mkS (bytes l[i].s.num.natAbs)), .string (mkS (bytes l[i].s.den)), .int .i64 l[i].n] := cells_isub l i h
theorem sd_put (l : List Sd) (i : Nat) (x : Sd) (h : i < l.length) : iput (cells l) (i * 4) [.bool (decide (x.s.num < 0)), .string (mkS (bytes x.s.num.natAbs)), .string (mkS (bytes x.s.den)), .int .i64 x.n] = cells (l.set i x) := cells_put l i x h
theorem swp_sh (d : Array Sd) (i j : Nat) (hi : i < d.size) (hj : j < d.size) (h : ∀ k (hk : k < d.size), ShS d[k]) : ∀ k (hk : k < (Go.Sort.swp d i j).size), ShS (Go.Sort.swp d i j)[k] := by
  intro k hk
  have hm : (Go.Sort.swp d i j)[k] ∈ (Go.Sort.swp d i j).toList := Array.getElem_mem_toList hk
  rw [swp_list d i j hi hj] at hm
  have hall : ∀ x ∈ d.toList, ShS x := by
    intro x hx
    obtain ⟨n, hn, rfl⟩ := List.getElem_of_mem hx
    rw [Array.length_toList] at hn
    exact h n hn
  rcases List.mem_or_eq_of_mem_set hm with hm | hm
  · rcases List.mem_or_eq_of_mem_set hm with hm | hm
    · exact hall _ hm
    · rw [hm]; exact h _ _
  · rw [hm]; exact h _ _
theorem s_ins (lk : Nat) (H : Heap) (b : Nat) (d : Array Sd) (a e : Nat) (hae : a ≤ e) (he : e ≤ d.size) (hn : d.size ≤ 100000) (hlk : lk ≤ b) (hd : ∀ i (h : i < d.size), ShS d[i]) (hB : ilive H b = some ⟨cells d.toList, 4, false⟩) :
    gcall Tryz.prog md lk 277 [.slice (some ⟨b, 0, none⟩) d.size d.size, .int .i64 (a : Int), .int .i64 (e : Int), cmpF] H = some (.tuple #[], H.set b ⟨cells (Go.Sort.insertionSort ltS d a e).toList, 4, false⟩) := by
  refine gcall_raw (by decide) (by decide) (by decide) Tryz.func277 rfl ?_
  have e1 : IntKind.i64.wrap ((a : Int) + 1) = ((a + 1 : Nat) : Int) := by rw [w64 (by omega) (by omega)]; omega
  simp -dsimp only [go_sem, e1]
  refine r_loop (m := fun (s : Nat × Array Sd) => e + 1 - s.1) (I := fun s σ H' => a + 1 ≤ s.1 ∧ s.2.size = d.size ∧ (∀ i (h : i < s.2.size), ShS s.2[i]) ∧ Go.Sort.insOuter ltS a e s.1 s.2 = Go.Sort.insertionSort ltS d a e ∧ H' = H.set b ⟨cells s.2.toList, 4, false⟩ ∧ σ 0 = .slice (some ⟨b, 0, none⟩) d.size d.size ∧ σ 1 = .int .i64 (a : Int) ∧ σ 2 = .int .i64 (e : Int) ∧ σ 3 = cmpF ∧ σ 8 = .int .i64 (s.1 : Int)) (a + 1, d) ?_ ?_
  · exact ⟨Nat.le_refl _, rfl, hd, rfl, (set_same hB).symm, rfl, rfl, rfl, rfl, rfl⟩
  · rintro ⟨i, d1⟩ σ H' ⟨i1, z1, hd1, hI, rfl, g0, g1, g2, g3, g8⟩
    simp only [] at i1 z1 hd1 hI g8
    by_cases hi : i < e
    · have c1 : ((i : Int) < (e : Int)) = True := eq_true (by omega)
      simp -dsimp only [go_sem, g2, g8, c1]
      have hset : ∀ c, ilive (H.set b ⟨c, 4, false⟩) b = some ⟨c, 4, false⟩ := fun c => ilive_set_self (ilive_lt hB) rfl
      have e7 : IntKind.i64.wrap ((i : Int) + 1) = ((i + 1 : Nat) : Int) := by rw [w64 (by omega) (by omega)]; omega
      have hout : Go.Sort.insOuter ltS a e i d1 = Go.Sort.insOuter ltS a e (i + 1) (Go.Sort.insInner ltS a i d1) := by
        conv => lhs; unfold Go.Sort.insOuter
        rw [if_pos hi]
      rw [hout] at hI
      refine r_loop (m := fun (s : Nat × Array Sd) => s.1) (I := fun s σ H' => s.1 ≤ i ∧ s.2.size = d.size ∧ (∀ i (h : i < s.2.size), ShS s.2[i]) ∧ Go.Sort.insInner ltS a s.1 s.2 = Go.Sort.insInner ltS a i d1 ∧ H' = H.set b ⟨cells s.2.toList, 4, false⟩ ∧ σ 0 = .slice (some ⟨b, 0, none⟩) d.size d.size ∧ σ 1 = .int .i64 (a : Int) ∧ σ 2 = .int .i64 (e : Int) ∧ σ 3 = cmpF ∧ σ 8 = .int .i64 (i : Int) ∧ σ 9 = .int .i64 (s.1 : Int)) (i, d1) ⟨Nat.le_refl _, z1, hd1, rfl, rfl, g0, g1, g2, g3, g8, rfl⟩ ?_
      clear g0 g1 g2 g3 g8
      rintro ⟨j, d2⟩ σ H' ⟨j1, z2, hd2, hJ, rfl, g0, g1, g2, g3, g8, g9⟩
      simp only [] at j1 z2 hd2 hJ g9
      have stop : Go.Sort.insInner ltS a j d2 = d2 → Go.Sort.insOuter ltS a e (i + 1) d2 = Go.Sort.insertionSort ltS d a e := fun h => by rw [← hI, ← hJ, h]
      by_cases hj : a < j
      · obtain ⟨u, rfl⟩ : ∃ u, j = u + 1 := ⟨j - 1, by omega⟩
        have c2 : ((a : Int) < ((u + 1 : Nat) : Int)) = True := eq_true (by omega)
        have e2 : IntKind.i64.wrap (((u + 1 : Nat) : Int) - 1) = (u : Int) := by rw [w64 (by omega) (by omega)]; omega
        have hu1 : u + 1 < d2.toList.length := by rw [Array.length_toList]; omega
        have hu : u < d2.toList.length := by omega
        have hu1' : u + 1 < d.size := by omega
        have hu' : u < d.size := by omega
        have s1 := sd_isub d2.toList (u + 1) hu1
        have s2 := sd_isub d2.toList u hu
        have kc := fun lk H' => ltS_run lk H' d2[u + 1] d2[u] (hd2 _ (by omega)) (hd2 _ (by omega))
        have q1 : d2.toList[u + 1] = d2[u + 1] := Array.getElem_toList _
        have q2 : d2.toList[u] = d2[u] := Array.getElem_toList _
        rw [q1] at s1
        rw [q2] at s2
        have hunf : Go.Sort.insInner ltS a (u + 1) d2 = if ltS d2[u + 1] d2[u] = true then Go.Sort.insInner ltS a u (Go.Sort.swp d2 (u + 1) u) else d2 := by
          conv => lhs; unfold Go.Sort.insInner
          rw [bang_get d2 (u + 1) (by omega), bang_get d2 u (by omega)]
          simp [hj]
        by_cases hlt : rcmp d2[u + 1].s d2[u].s < 0
        · have c3 : (rcmp d2[u + 1].s d2[u].s < 0) = True := eq_true hlt
          have hl2 : ltS d2[u + 1] d2[u] = true := decide_eq_true hlt
          rw [hl2, if_pos rfl] at hunf
          have p1 := sd_put d2.toList (u + 1) d2[u] hu1
          have p2 := sd_put (d2.toList.set (u + 1) d2[u]) u d2[u + 1] (by rw [List.length_set]; exact hu)
          have hsw := swp_list d2 (u + 1) u (by omega) (by omega)
          rw [← hsw] at p2
          simp -dsimp only [go_sem, g0, g1, g3, g9, c2, e2, hset, s1, s2, hu1', hu', kc, c3, p1, p2, List.set_set]
          have lc : (cells d2.toList).length = d2.toList.length * 4 := cells_len _
          have lc2 : (cells (d2.toList.set (u + 1) d2[u])).length = (d2.toList.set (u + 1) d2[u]).length * 4 := cells_len _
          rw [List.length_set] at lc2
          exact ⟨⟨hlk, by omega⟩, ⟨hlk, by omega⟩, next (u, Go.Sort.swp d2 (u + 1) u) (by show u < u + 1; omega) ⟨by show u ≤ i; omega, by simp only []; rw [swp_size]; exact z2, swp_sh d2 _ _ (by omega) (by omega) hd2, by simp only []; rw [← hunf]; exact hJ, rfl, g0, g1, g2, g3, g8, rfl⟩⟩
        · have c3 : (rcmp d2[u + 1].s d2[u].s < 0) = False := eq_false hlt
          have hl2 : ltS d2[u + 1] d2[u] = false := decide_eq_false hlt
          rw [hl2, if_neg (by decide)] at hunf
          simp -dsimp only [go_sem, g0, g1, g3, g8, g9, c2, e2, e7, hset, s1, s2, hu1', hu', kc, c3]
          exact next (i + 1, d2) (by show e + 1 - (i + 1) < e + 1 - i; omega) ⟨by omega, z2, hd2, stop hunf, rfl, g0, g1, g2, g3, rfl⟩
      · have c2 : ((a : Int) < (j : Int)) = False := eq_false (by omega)
        have hunf : Go.Sort.insInner ltS a j d2 = d2 := by
          cases j with
          | zero => rfl
          | succ u => unfold Go.Sort.insInner; simp [hj]
        simp -dsimp only [go_sem, g1, g8, g9, c2, e7]
        exact next (i + 1, d2) (by show e + 1 - (i + 1) < e + 1 - i; omega) ⟨by omega, z2, hd2, stop hunf, rfl, g0, g1, g2, g3, rfl⟩
    · have c1 : ((i : Int) < (e : Int)) = False := eq_false (by omega)
      unfold Go.Sort.insOuter at hI
      rw [if_neg hi] at hI
      rw [← hI]
      simp -dsimp only [go_sem, g2, g8, c1]
end Gx
end
section
set_option autoImplicit false
namespace Gx
open Go Go.Proofs
set_option maxRecDepth 10000
theorem s_rev (lk : Nat) (H : Heap) (b : Nat) (d : Array Sd) (a e : Nat) (he0 : 0 < e) (he : e ≤ d.size) (ha : a ≤ 100000) (hn : d.size ≤ 100000) (hlk : lk ≤ b) (hB : ilive H b = some ⟨cells d.toList, 4, false⟩) :
    gcall Tryz.prog md lk 281 [.slice (some ⟨b, 0, none⟩) d.size d.size, .int .i64 (a : Int), .int .i64 (e : Int), cmpF] H = some (.tuple #[], H.set b ⟨cells (Go.Sort.reverseRange d a e).toList, 4, false⟩) := by
  refine gcall_raw (by decide) (by decide) (by decide) Tryz.func281 rfl ?_
  have e1 : IntKind.i64.wrap ((e : Int) - 1) = ((e - 1 : Nat) : Int) := by rw [w64 (by omega) (by omega)]; omega
  simp -dsimp only [go_sem, e1]
  refine r_loop (m := fun (s : Nat × Nat × Array Sd) => s.2.1) (I := fun s σ H' => s.1 ≤ 200000 ∧ s.2.1 < e ∧ s.2.2.size = d.size ∧ Go.Sort.reverseLoop s.1 s.2.1 s.2.2 = Go.Sort.reverseRange d a e ∧ H' = H.set b ⟨cells s.2.2.toList, 4, false⟩ ∧ σ 0 = .slice (some ⟨b, 0, none⟩) d.size d.size ∧ σ 8 = .int .i64 (s.1 : Int) ∧ σ 9 = .int .i64 (s.2.1 : Int)) (a, e - 1, d) ?_ ?_
  · exact ⟨by simp only []; omega, by simp only []; omega, rfl, rfl, (set_same hB).symm, rfl, rfl, rfl⟩
  · rintro ⟨i, j, d2⟩ σ H' ⟨i1, j1, z2, hI, rfl, g0, g8, g9⟩
    simp only [] at i1 j1 z2 hI g8 g9
    by_cases hij : i < j
    · have c1 : ((i : Int) < (j : Int)) = True := eq_true (by omega)
      have hset : ∀ c, ilive (H.set b ⟨c, 4, false⟩) b = some ⟨c, 4, false⟩ := fun c => ilive_set_self (ilive_lt hB) rfl
      have e2 : IntKind.i64.wrap ((i : Int) + 1) = ((i + 1 : Nat) : Int) := by rw [w64 (by omega) (by omega)]; omega
      have e3 : IntKind.i64.wrap ((j : Int) - 1) = ((j - 1 : Nat) : Int) := by rw [w64 (by omega) (by omega)]; omega
      have hi : i < d2.toList.length := by rw [Array.length_toList]; omega
      have hj : j < d2.toList.length := by rw [Array.length_toList]; omega
      have hi' : i < d.size := by omega
      have hj' : j < d.size := by omega
      have s1 := sd_isub d2.toList i hi
      have s2 := sd_isub d2.toList j hj
      have q1 : d2.toList[i] = d2[i] := Array.getElem_toList _
      have q2 : d2.toList[j] = d2[j] := Array.getElem_toList _
      rw [q1] at s1
      rw [q2] at s2
      have p1 := sd_put d2.toList i d2[j] hi
      have p2 := sd_put (d2.toList.set i d2[j]) j d2[i] (by rw [List.length_set]; exact hj)
      have hsw := swp_list d2 i j (by omega) (by omega)
      rw [← hsw] at p2
      have lc : (cells d2.toList).length = d2.toList.length * 4 := cells_len _
      have lc2 : (cells (d2.toList.set i d2[j])).length = (d2.toList.set i d2[j]).length * 4 := cells_len _
      rw [List.length_set] at lc2
      unfold Go.Sort.reverseLoop at hI
      rw [if_pos hij] at hI
      simp -dsimp only [go_sem, g0, g8, g9, c1, e2, e3, hset, s1, s2, hi', hj', p1, p2, List.set_set]
      exact ⟨⟨hlk, by omega⟩, ⟨hlk, by omega⟩, next (i + 1, j - 1, Go.Sort.swp d2 i j) (by show j - 1 < j; omega) ⟨by simp only []; omega, by simp only []; omega, by simp only []; rw [swp_size]; exact z2, hI, rfl, g0, rfl, rfl⟩⟩
    · have c1 : ((i : Int) < (j : Int)) = False := eq_false (by omega)
      unfold Go.Sort.reverseLoop at hI
      rw [if_neg hij] at hI
      rw [← hI]
      simp -dsimp only [go_sem, g8, g9, c1]
end Gx
end
section
set_option autoImplicit false
namespace Gx
open Go Go.Proofs
set_option maxRecDepth 10000
/-- All sides of an array are short. -/
def AllS (d : Array Sd) : Prop := ∀ i (h : i < d.size), ShS d[i]
theorem AllS.swp {d : Array Sd} (h : AllS d) {i j : Nat} (hi : i < d.size) (hj : j < d.size) : AllS (Go.Sort.swp d i j) := swp_sh d i j hi hj h
theorem sdg (d : Array Sd) (i : Nat) (h : i < d.size) : isub (cells d.toList) (i * 4) 4 = some [.bool (decide (d[i].s.num < 0)), .string (mkS (bytes d[i].s.num.natAbs)), .string (mkS (bytes d[i].s.den)), .int .i64 d[i].n] := by
  have := sd_isub d.toList i (by rw [Array.length_toList]; exact h)
  rwa [show d.toList[i] = d[i] from Array.getElem_toList _] at this
theorem sdp1 (d : Array Sd) (i j : Nat) (hi : i < d.size) (hj : j < d.size) : iput (cells d.toList) (i * 4) [.bool (decide (d[j].s.num < 0)), .string (mkS (bytes d[j].s.num.natAbs)), .string (mkS (bytes d[j].s.den)), .int .i64 d[j].n] = cells (d.toList.set i d[j]) :=
  sd_put d.toList i d[j] (by rw [Array.length_toList]; exact hi)
theorem sdp2 (d : Array Sd) (i j : Nat) (hi : i < d.size) (hj : j < d.size) : iput (cells (d.toList.set i d[j])) (j * 4) [.bool (decide (d[i].s.num < 0)), .string (mkS (bytes d[i].s.num.natAbs)), .string (mkS (bytes d[i].s.den)), .int .i64 d[i].n] = cells (Go.Sort.swp d i j).toList := by
  rw [swp_list d i j hi hj]
  exact sd_put (d.toList.set i d[j]) j d[i] (by rw [List.length_set, Array.length_toList]; exact hj)
theorem sdl (d : Array Sd) : (cells d.toList).length = d.size * 4 := by rw [cells_len]; rfl
theorem sdl2 (d : Array Sd) (i : Nat) (x : Sd) : (cells (d.toList.set i x)).length = d.size * 4 := by rw [cells_len, List.length_set]; rfl
theorem ltS_bang (d : Array Sd) {i j : Nat} (hi : i < d.size) (hj : j < d.size) : ltS d[i]! d[j]! = decide (rcmp d[i].s d[j].s < 0) := by
  rw [bang_get d i hi, bang_get d j hj]; rfl
theorem cmpS_run {d : Array Sd} (hd : AllS d) {i j : Nat} (hi : i < d.size) (hj : j < d.size) (lk : Nat) (H : Heap) :
    gcall Tryz.prog md lk 149 [.agg [.bool (decide (d[i].s.num < 0)), .string (mkS (bytes d[i].s.num.natAbs)), .string (mkS (bytes d[i].s.den)), .int .i64 d[i].n].toArray, .agg [.bool (decide (d[j].s.num < 0)), .string (mkS (bytes d[j].s.num.natAbs)), .string (mkS (bytes d[j].s.den)), .int .i64 d[j].n].toArray] H = some (.int .i64 (rcmp d[i].s d[j].s), H) := ltS_run lk H d[i] d[j] (hd _ hi) (hd _ hj)
theorem ilive_same {H : Heap} {b : Nat} {B : Blk} (hB : ilive H b = some B) (c : List Value) : ilive (H.set b ⟨c, 4, false⟩) b = some ⟨c, 4, false⟩ := ilive_set_self (ilive_lt hB) rfl
theorem sift_stop {hi first root : Nat} {d : Array Sd} (h : 2 * root + 1 ≥ hi) : Go.Sort.siftDown ltS hi first root d = d := by
  unfold Go.Sort.siftDown; rw [dif_pos h]
/-- The greater child. -/
def chS (d : Array Sd) (hi first root : Nat) : Nat := if 2 * root + 1 + 1 < hi ∧ ltS d[first + (2 * root + 1)]! d[first + (2 * root + 1) + 1]! = true then 2 * root + 2 else 2 * root + 1
theorem sift_ret {hi first root : Nat} {d : Array Sd} (h : ¬ 2 * root + 1 ≥ hi) (hl : ltS d[first + root]! d[first + chS d hi first root]! = false) : Go.Sort.siftDown ltS hi first root d = d := by
  unfold Go.Sort.siftDown; rw [dif_neg h]
  unfold chS at hl
  by_cases hc : 2 * root + 1 + 1 < hi ∧ ltS d[first + (2 * root + 1)]! d[first + (2 * root + 1) + 1]! = true
  · rw [if_pos hc] at hl
    rw [if_pos (by simp [hc.1, hc.2]), if_pos (by simp [hl])]
  · rw [if_neg hc] at hl
    rw [if_neg (by simpa using hc), if_pos (by simp [hl])]
theorem sift_go {hi first root : Nat} {d : Array Sd} (h : ¬ 2 * root + 1 ≥ hi) (hl : ltS d[first + root]! d[first + chS d hi first root]! = true) :
    Go.Sort.siftDown ltS hi first root d = Go.Sort.siftDown ltS hi first (chS d hi first root) (Go.Sort.swp d (first + root) (first + chS d hi first root)) := by
  conv => lhs; unfold Go.Sort.siftDown
  rw [dif_neg h]
  unfold chS at hl ⊢
  by_cases hc : 2 * root + 1 + 1 < hi ∧ ltS d[first + (2 * root + 1)]! d[first + (2 * root + 1) + 1]! = true
  · rw [if_pos hc] at hl ⊢
    rw [if_pos (by simp [hc.1, hc.2]), if_neg (by simp [hl]), dif_pos (by omega)]
  · rw [if_neg hc] at hl ⊢
    rw [if_neg (by simpa using hc), if_neg (by simp [hl])]
end Gx
end
section
set_option autoImplicit false
namespace Gx
open Go Go.Proofs
set_option maxRecDepth 10000
theorem s_sift (lk : Nat) (H : Heap) (b : Nat) (d : Array Sd) (lo hi first : Nat) (hs : first + hi ≤ d.size) (hlo : lo ≤ 100000) (hn : d.size ≤ 100000) (hlk : lk ≤ b) (hd : AllS d) (hB : ilive H b = some ⟨cells d.toList, 4, false⟩) :
    gcall Tryz.prog md lk 311 [.slice (some ⟨b, 0, none⟩) d.size d.size, .int .i64 (lo : Int), .int .i64 (hi : Int), .int .i64 (first : Int), cmpF] H = some (.tuple #[], H.set b ⟨cells (Go.Sort.siftDown ltS hi first lo d).toList, 4, false⟩) := by
  refine gcall_raw (by decide) (by decide) (by decide) Tryz.func311 rfl ?_
  simp -dsimp only [go_sem]
  refine r_loop (m := fun (s : Nat × Array Sd) => hi - s.1) (I := fun s σ H' => s.1 ≤ 100000 ∧ s.2.size = d.size ∧ AllS s.2 ∧ Go.Sort.siftDown ltS hi first s.1 s.2 = Go.Sort.siftDown ltS hi first lo d ∧ H' = H.set b ⟨cells s.2.toList, 4, false⟩ ∧ σ 0 = .slice (some ⟨b, 0, none⟩) d.size d.size ∧ σ 2 = .int .i64 (hi : Int) ∧ σ 3 = .int .i64 (first : Int) ∧ σ 4 = cmpF ∧ σ 10 = .int .i64 (s.1 : Int)) (lo, d) ?_ ?_
  · exact ⟨hlo, rfl, hd, rfl, (set_same hB).symm, rfl, rfl, rfl, rfl, rfl⟩
  · rintro ⟨root, d1⟩ σ H' ⟨i1, z1, hd1, hI, rfl, g0, g2, g3, g4, g10⟩
    simp only [] at i1 z1 hd1 hI g10
    have e1 : IntKind.i64.wrap (2 * (root : Int)) = ((2 * root : Nat) : Int) := by rw [w64 (by omega) (by omega)]; omega
    have e2 : IntKind.i64.wrap (((2 * root : Nat) : Int) + 1) = ((2 * root + 1 : Nat) : Int) := by rw [w64 (by omega) (by omega)]; omega
    have hset := ilive_same hB
    by_cases hc : 2 * root + 1 ≥ hi
    · have c1 : ((hi : Int) ≤ ((2 * root + 1 : Nat) : Int)) = True := eq_true (by omega)
      rw [sift_stop hc] at hI
      rw [← hI]
      simp -dsimp only [go_sem, g0, g2, g3, g4, g10, e1, e2, c1]
    · have c1 : ((hi : Int) ≤ ((2 * root + 1 : Nat) : Int)) = False := eq_false (by omega)
      have e3 : IntKind.i64.wrap (((2 * root + 1 : Nat) : Int) + 1) = ((2 * root + 2 : Nat) : Int) := by rw [w64 (by omega) (by omega)]; omega
      have e4 : IntKind.i64.wrap ((first : Int) + (root : Int)) = ((first + root : Nat) : Int) := by rw [w64 (by omega) (by omega)]; omega
      have e5 : IntKind.i64.wrap ((first : Int) + ((2 * root + 1 : Nat) : Int)) = ((first + (2 * root + 1) : Nat) : Int) := by rw [w64 (by omega) (by omega)]; omega
      have e6 : IntKind.i64.wrap (((first + (2 * root + 1) : Nat) : Int) + 1) = ((first + (2 * root + 2) : Nat) : Int) := by rw [w64 (by omega) (by omega)]; omega
      have e7 : IntKind.i64.wrap ((first : Int) + ((2 * root + 2 : Nat) : Int)) = ((first + (2 * root + 2) : Nat) : Int) := by rw [w64 (by omega) (by omega)]; omega
      have hx : first + root < d1.size := by omega
      have hy : first + (2 * root + 1) < d1.size := by omega
      have hx' : first + root < d.size := by omega
      have hy' : first + (2 * root + 1) < d.size := by omega
      have sx := sdg d1 _ hx
      have sy := sdg d1 _ hy
      by_cases hc2 : 2 * root + 2 < hi
      · have c2 : (((2 * root + 2 : Nat) : Int) < (hi : Int)) = True := eq_true (by omega)
        have hz : first + (2 * root + 2) < d1.size := by omega
        have hz' : first + (2 * root + 2) < d.size := by omega
        have sz := sdg d1 _ hz
        have kc := cmpS_run hd1 hy hz
        by_cases hm : rcmp d1[first + (2 * root + 1)].s d1[first + (2 * root + 2)].s < 0
        · have m1 : (rcmp d1[first + (2 * root + 1)].s d1[first + (2 * root + 2)].s < 0) = True := eq_true hm
          have hch : chS d1 hi first root = 2 * root + 2 := by
            unfold chS
            rw [show first + (2 * root + 1) + 1 = first + (2 * root + 2) by omega, ltS_bang d1 hy hz, if_pos ⟨by omega, decide_eq_true hm⟩]
          by_cases hl : rcmp d1[first + root].s d1[first + (2 * root + 2)].s < 0
          · have l1 : (rcmp d1[first + root].s d1[first + (2 * root + 2)].s < 0) = True := eq_true hl
            have hgo := sift_go hc (by rw [hch, ltS_bang d1 hx hz]; exact decide_eq_true hl)
            rw [hch] at hgo
            rw [hgo] at hI
            have p1 := sdp1 d1 _ _ hx hz
            have p2 := sdp2 d1 _ _ hx hz
            have kl := cmpS_run hd1 hx hz
            simp -dsimp only [go_sem, g0, g2, g3, g4, g10, e1, e2, e3, e4, e5, e6, e7, c1, c2, hz', sz, kc, m1, hset, sx, sy, hx', hy', kl, l1, p1, p2, List.set_set]
            have q1 := sdl d1
            have q2 := sdl2 d1 (first + root) d1[first + (2 * root + 2)]
            exact ⟨⟨hlk, by omega⟩, ⟨hlk, by omega⟩, next (2 * root + 2, Go.Sort.swp d1 (first + root) (first + (2 * root + 2))) (by show hi - (2 * root + 2) < hi - root; omega) ⟨by simp only []; omega, by simp only []; rw [swp_size]; exact z1, hd1.swp hx hz, hI, rfl, g0, g2, g3, g4, rfl⟩⟩
          · have l1 : (rcmp d1[first + root].s d1[first + (2 * root + 2)].s < 0) = False := eq_false hl
            have hgo := sift_ret hc (by rw [hch, ltS_bang d1 hx hz]; exact decide_eq_false hl)
            rw [hgo] at hI
            rw [← hI]
            have kl := cmpS_run hd1 hx hz
            simp -dsimp only [go_sem, g0, g2, g3, g4, g10, e1, e2, e3, e4, e5, e6, e7, c1, c2, hz', sz, kc, m1, hset, sx, sy, hx', hy', kl, l1]
        · have m1 : (rcmp d1[first + (2 * root + 1)].s d1[first + (2 * root + 2)].s < 0) = False := eq_false hm
          have hch : chS d1 hi first root = 2 * root + 1 := by
            unfold chS
            rw [show first + (2 * root + 1) + 1 = first + (2 * root + 2) by omega, ltS_bang d1 hy hz, if_neg (fun h => hm (of_decide_eq_true h.2))]
          by_cases hl : rcmp d1[first + root].s d1[first + (2 * root + 1)].s < 0
          · have l1 : (rcmp d1[first + root].s d1[first + (2 * root + 1)].s < 0) = True := eq_true hl
            have hgo := sift_go hc (by rw [hch, ltS_bang d1 hx hy]; exact decide_eq_true hl)
            rw [hch] at hgo
            rw [hgo] at hI
            have p1 := sdp1 d1 _ _ hx hy
            have p2 := sdp2 d1 _ _ hx hy
            have kl := cmpS_run hd1 hx hy
            simp -dsimp only [go_sem, g0, g2, g3, g4, g10, e1, e2, e3, e4, e5, e6, e7, c1, c2, hz', sz, kc, m1, hset, sx, sy, hx', hy', kl, l1, p1, p2, List.set_set]
            have q1 := sdl d1
            have q2 := sdl2 d1 (first + root) d1[first + (2 * root + 1)]
            exact ⟨⟨hlk, by omega⟩, ⟨hlk, by omega⟩, next (2 * root + 1, Go.Sort.swp d1 (first + root) (first + (2 * root + 1))) (by show hi - (2 * root + 1) < hi - root; omega) ⟨by simp only []; omega, by simp only []; rw [swp_size]; exact z1, hd1.swp hx hy, hI, rfl, g0, g2, g3, g4, rfl⟩⟩
          · have l1 : (rcmp d1[first + root].s d1[first + (2 * root + 1)].s < 0) = False := eq_false hl
            have hgo := sift_ret hc (by rw [hch, ltS_bang d1 hx hy]; exact decide_eq_false hl)
            rw [hgo] at hI
            rw [← hI]
            have kl := cmpS_run hd1 hx hy
            simp -dsimp only [go_sem, g0, g2, g3, g4, g10, e1, e2, e3, e4, e5, e6, e7, c1, c2, hz', sz, kc, m1, hset, sx, sy, hx', hy', kl, l1]
      · have c2 : (((2 * root + 2 : Nat) : Int) < (hi : Int)) = False := eq_false (by omega)
        have hch : chS d1 hi first root = 2 * root + 1 := by
          unfold chS
          rw [if_neg (fun h => hc2 (by omega))]
        by_cases hl : rcmp d1[first + root].s d1[first + (2 * root + 1)].s < 0
        · have l1 : (rcmp d1[first + root].s d1[first + (2 * root + 1)].s < 0) = True := eq_true hl
          have hgo := sift_go hc (by rw [hch, ltS_bang d1 hx hy]; exact decide_eq_true hl)
          rw [hch] at hgo
          rw [hgo] at hI
          have p1 := sdp1 d1 _ _ hx hy
          have p2 := sdp2 d1 _ _ hx hy
          have kl := cmpS_run hd1 hx hy
          simp -dsimp only [go_sem, g0, g2, g3, g4, g10, e1, e2, e3, e4, e5, e6, e7, c1, c2, hset, sx, sy, hx', hy', kl, l1, p1, p2, List.set_set]
          have q1 := sdl d1
          have q2 := sdl2 d1 (first + root) d1[first + (2 * root + 1)]
          exact ⟨⟨hlk, by omega⟩, ⟨hlk, by omega⟩, next (2 * root + 1, Go.Sort.swp d1 (first + root) (first + (2 * root + 1))) (by show hi - (2 * root + 1) < hi - root; omega) ⟨by simp only []; omega, by simp only []; rw [swp_size]; exact z1, hd1.swp hx hy, hI, rfl, g0, g2, g3, g4, rfl⟩⟩
        · have l1 : (rcmp d1[first + root].s d1[first + (2 * root + 1)].s < 0) = False := eq_false hl
          have hgo := sift_ret hc (by rw [hch, ltS_bang d1 hx hy]; exact decide_eq_false hl)
          rw [hgo] at hI
          rw [← hI]
          have kl := cmpS_run hd1 hx hy
          simp -dsimp only [go_sem, g0, g2, g3, g4, g10, e1, e2, e3, e4, e5, e6, e7, c1, c2, hset, sx, sy, hx', hy', kl, l1]
end Gx
end
section
set_option autoImplicit false
namespace Gx
open Go Go.Proofs
set_option maxRecDepth 10000
theorem chS_lt {d : Array Sd} {hi first root : Nat} (h : ¬ 2 * root + 1 ≥ hi) : chS d hi first root < hi ∧ root < chS d hi first root := by
  unfold chS
  split <;> omega
theorem sift_ok (hi first : Nat) : ∀ (n root : Nat) (d : Array Sd), hi - root ≤ n → first + hi ≤ d.size → AllS d → AllS (Go.Sort.siftDown ltS hi first root d) ∧ (Go.Sort.siftDown ltS hi first root d).size = d.size
  | 0, root, d, hn, hs, hd => by
    rw [sift_stop (by omega)]; exact ⟨hd, rfl⟩
  | n + 1, root, d, hn, hs, hd => by
    by_cases h : 2 * root + 1 ≥ hi
    · rw [sift_stop h]; exact ⟨hd, rfl⟩
    · have hc := chS_lt (d := d) (first := first) h
      by_cases hl : ltS d[first + root]! d[first + chS d hi first root]! = true
      · rw [sift_go h hl]
        have := sift_ok hi first n (chS d hi first root) (Go.Sort.swp d (first + root) (first + chS d hi first root)) (by omega) (by rw [swp_size]; exact hs) (hd.swp (by omega) (by omega))
        rw [swp_size] at this
        exact this
      · rw [sift_ret h (by simpa using hl)]; exact ⟨hd, rfl⟩
theorem s_heap (lk : Nat) (H : Heap) (b : Nat) (d : Array Sd) (a e : Nat) (hae : a < e) (he : e ≤ d.size) (hn : d.size ≤ 100000) (hlk : lk ≤ b) (hd : AllS d) (hB : ilive H b = some ⟨cells d.toList, 4, false⟩) :
    gcall Tryz.prog md lk 278 [.slice (some ⟨b, 0, none⟩) d.size d.size, .int .i64 (a : Int), .int .i64 (e : Int), cmpF] H = some (.tuple #[], H.set b ⟨cells (Go.Sort.heapSort ltS d a e).toList, 4, false⟩) := by
  refine gcall_raw (by decide) (by decide) (by decide) Tryz.func278 rfl ?_
  have e1 : IntKind.i64.wrap ((e : Int) - (a : Int)) = ((e - a : Nat) : Int) := by rw [w64 (by omega) (by omega)]; omega
  have e2 : IntKind.i64.wrap (((e - a : Nat) : Int) - 1) = ((e - a - 1 : Nat) : Int) := by rw [w64 (by omega) (by omega)]; omega
  have e3 : IntKind.i64.wrap (Int.tdiv ((e - a - 1 : Nat) : Int) 2) = (((e - a - 1) / 2 : Nat) : Int) := by
    have h9 : Int.tdiv ((e - a - 1 : Nat) : Int) 2 = (((e - a - 1) / 2 : Nat) : Int) := rfl
    rw [h9, w64 (by omega) (by omega)]
  have hset := ilive_same hB
  simp -dsimp only [go_sem, e1, e2, e3]
  refine r_loop (m := fun (s : Nat × Array Sd) => s.1) (I := fun s σ H' => s.1 ≤ (e - a - 1) / 2 + 1 ∧ s.2.size = d.size ∧ AllS s.2 ∧ Go.Sort.heapBuild ltS (e - a) a s.1 s.2 = Go.Sort.heapBuild ltS (e - a) a ((e - a - 1) / 2 + 1) d ∧ H' = H.set b ⟨cells s.2.toList, 4, false⟩ ∧ σ 0 = .slice (some ⟨b, 0, none⟩) d.size d.size ∧ σ 3 = cmpF ∧ σ 8 = .int .i64 (a : Int) ∧ σ 9 = .int .i64 0 ∧ σ 10 = .int .i64 ((e - a : Nat) : Int) ∧ σ 11 = .int .i64 ((s.1 : Int) - 1)) ((e - a - 1) / 2 + 1, d) ?_ ?_
  · refine ⟨Nat.le_refl _, rfl, hd, rfl, (set_same hB).symm, rfl, rfl, rfl, rfl, rfl, ?_⟩
    show Value.int .i64 (((e - a - 1) / 2 : Nat) : Int) = _
    simp only []
    congr 1
    omega
  · rintro ⟨k, d1⟩ σ H' ⟨i1, z1, hd1, hI, rfl, g0, g3, g8, g9, g10, g11⟩
    simp only [] at i1 z1 hd1 hI g11
    cases k with
    | succ k =>
      have c1 : (0 ≤ ((k + 1 : Nat) : Int) - 1) = True := eq_true (by omega)
      have e4 : ((k + 1 : Nat) : Int) - 1 = (k : Int) := by omega
      have e5 : IntKind.i64.wrap ((k : Int) - 1) = (k : Int) - 1 := by rw [w64 (by omega) (by omega)]
      have ks := s_sift lk (H.set b ⟨cells d1.toList, 4, false⟩) b d1 k (e - a) a (by omega) (by omega) (by omega) hlk hd1 (hset _)
      rw [z1] at ks
      have hok := sift_ok (e - a) a _ k d1 (Nat.le_refl _) (by omega) hd1
      rw [e4] at g11
      have c1' : (0 ≤ (k : Int)) = True := eq_true (by omega)
      simp -dsimp only [go_sem, g0, g3, g8, g10, g11, c1', e5, ks, List.set_set]
      exact next (k, Go.Sort.siftDown ltS (e - a) a k d1) (by show k < k + 1; omega) ⟨by simp only []; omega, by simp only []; rw [hok.2]; exact z1, hok.1, hI, rfl, g0, g3, g8, g9, g10, rfl⟩
    | zero =>
      have c1 : (0 ≤ (0 : Int) - 1) = False := eq_false (by omega)
      rw [show Go.Sort.heapBuild ltS (e - a) a 0 d1 = d1 from rfl] at hI
      simp -dsimp only [go_sem, g10, g11, c1, e2]
      have hfin : Go.Sort.heapSort ltS d a e = Go.Sort.heapPop ltS a (e - a) d1 := by rw [hI]; rfl
      rw [hfin]
      refine r_loop (m := fun (s : Nat × Array Sd) => s.1) (I := fun s σ H' => s.1 ≤ e - a ∧ s.2.size = d.size ∧ AllS s.2 ∧ Go.Sort.heapPop ltS a s.1 s.2 = Go.Sort.heapPop ltS a (e - a) d1 ∧ H' = H.set b ⟨cells s.2.toList, 4, false⟩ ∧ σ 0 = .slice (some ⟨b, 0, none⟩) d.size d.size ∧ σ 3 = cmpF ∧ σ 8 = .int .i64 (a : Int) ∧ σ 9 = .int .i64 0 ∧ σ 12 = .int .i64 ((s.1 : Int) - 1)) (e - a, d1) ?_ ?_
      · refine ⟨Nat.le_refl _, z1, hd1, rfl, rfl, g0, g3, g8, g9, ?_⟩
        show Value.int .i64 ((e - a - 1 : Nat) : Int) = _
        simp only []
        congr 1
        omega
      · clear g0 g3 g8 g9 g10 g11
        rintro ⟨k, d2⟩ σ H' ⟨i2, z2, hd2, hJ, rfl, g0, g3, g8, g9, g12⟩
        simp only [] at i2 z2 hd2 hJ g12
        cases k with
        | succ k =>
          have e4 : ((k + 1 : Nat) : Int) - 1 = (k : Int) := by omega
          have e5 : IntKind.i64.wrap ((k : Int) - 1) = (k : Int) - 1 := by rw [w64 (by omega) (by omega)]
          have e6 : IntKind.i64.wrap ((a : Int) + (k : Int)) = ((a + k : Nat) : Int) := by rw [w64 (by omega) (by omega)]; omega
          rw [e4] at g12
          have c1' : (0 ≤ (k : Int)) = True := eq_true (by omega)
          have hx : a < d2.size := by omega
          have hy : a + k < d2.size := by omega
          have hx' : a < d.size := by omega
          have hy' : a + k < d.size := by omega
          have sx := sdg d2 _ hx
          have sy := sdg d2 _ hy
          have p1 := sdp1 d2 _ _ hx hy
          have p2 := sdp2 d2 _ _ hx hy
          have hd3 := hd2.swp hx hy
          have ks := s_sift lk (H.set b ⟨cells (Go.Sort.swp d2 a (a + k)).toList, 4, false⟩) b (Go.Sort.swp d2 a (a + k)) 0 k a (by rw [swp_size]; omega) (by omega) (by rw [swp_size]; omega) hlk hd3 (hset _)
          rw [swp_size, z2, Int.natCast_zero] at ks
          have hok := sift_ok k a _ 0 (Go.Sort.swp d2 a (a + k)) (Nat.le_refl _) (by rw [swp_size]; omega) hd3
          simp -dsimp only [go_sem, g0, g3, g8, g9, g12, c1', e5, e6, hset, sx, sy, hx', hy', p1, p2, ks, List.set_set]
          have q1 := sdl d2
          have q2 := sdl2 d2 a d2[a + k]
          exact ⟨⟨hlk, by omega⟩, ⟨hlk, by omega⟩, next (k, Go.Sort.siftDown ltS k a 0 (Go.Sort.swp d2 a (a + k))) (by show k < k + 1; omega) ⟨by simp only []; omega, by simp only []; rw [hok.2, swp_size]; exact z2, hok.1, hJ, rfl, g0, g3, g8, g9, rfl⟩⟩
        | zero =>
          have c1 : (0 ≤ (0 : Int) - 1) = False := eq_false (by omega)
          rw [show Go.Sort.heapPop ltS a 0 d2 = d2 from rfl] at hJ
          rw [← hJ]
          simp -dsimp only [go_sem, g12, c1]
end Gx
end
