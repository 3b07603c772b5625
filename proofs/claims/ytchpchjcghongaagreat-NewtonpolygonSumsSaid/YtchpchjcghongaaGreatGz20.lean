/- Lemmas: plain facts, or contracts of functions that are reached, in the interpreter without world and addresses. -/
import Derived.Test.YtchpchjcghongaaGreatGz19
import Derived.Sort.LotD1
set_option linter.all false
set_option linter.unusedVariables false
set_option linter.unusedSimpArgs false
set_option linter.unnecessarySimpa false
set_option linter.deprecated false
section
set_option autoImplicit false
namespace Gx
open Go Go.Proofs
set_option maxRecDepth 10000
section
variable {P : Program} {md : FuncId → Nat} {lk : Nat} {σ : Env} {H : Heap} {K : Env → Heap → Prop} {draw : Bool} {ops : Array Oper} {d : Option Nat} {ty : TypeId} {pos : String} {af : Array Go.Edge} {r : List Oper}
def asP : Value → Option Value
  | .pointer (some a) => some (.pointer (some a))
  | .func (.func f) first cap => some (.func (.func f) first cap)
  | _ => none
@[go_sem] theorem asP_ptr (a : Addr) : asP (.pointer (some a)) = some (.pointer (some a)) := rfl
@[go_sem ↓] theorem ro_nilCheck (x : Operand) : ROps P md lk draw ops (⟨d, .nilCheck x, ty, pos, af, none⟩ :: r) σ H K = obind (asP (ev σ x)) fun v => ROps P md lk draw ops r (put σ d v) H K := by
  rw [ro_flat (x := (asP (ev σ x)).map fun v => (v, H)) (fun _ => by
    simp only [iop]; unfold asP
    split <;> simp_all), obind_map]
end
theorem s_order2 (lk : Nat) (H : Heap) (b c : Nat) (d : Array Sd) (x y sw : Nat) (hx : x < d.size) (hy : y < d.size) (hn : d.size ≤ 100000) (hsw : sw ≤ 1000) (hlk : lk ≤ c) (hd : AllS d) (hB : ilive H b = some ⟨cells d.toList, 4, false⟩) (hC : ilive H c = some ⟨[.int .i64 (sw : Int)], 1, false⟩) :
    gcall Tryz.prog md lk 323 [.slice (some ⟨b, 0, none⟩) d.size d.size, .int .i64 (x : Int), .int .i64 (y : Int), .pointer (some ⟨c, 0, none⟩), cmpF] H = some (.tuple #[.int .i64 ((Go.Sort.order2 ltS d x y sw).1 : Int), .int .i64 ((Go.Sort.order2 ltS d x y sw).2.1 : Int)], H.set c ⟨[.int .i64 ((Go.Sort.order2 ltS d x y sw).2.2 : Int)], 1, false⟩) := by
  refine gcall_raw (by decide) (by decide) (by decide) Tryz.func323 rfl ?_
  have sx := sdg d _ hx
  have sy := sdg d _ hy
  have kc := cmpS_run hd hy hx
  have e1 : IntKind.i64.wrap ((sw : Int) + 1) = ((sw + 1 : Nat) : Int) := by rw [w64 (by omega) (by omega)]; omega
  by_cases hl : rcmp d[y].s d[x].s < 0
  · have l1 : (rcmp d[y].s d[x].s < 0) = True := eq_true hl
    have ho : Go.Sort.order2 ltS d x y sw = (y, x, sw + 1) := by
      unfold Go.Sort.order2
      rw [ltS_bang d hy hx, if_pos (decide_eq_true hl)]
    rw [ho]
    simp -dsimp only [go_sem, hB, hC, sx, sy, hx, hy, kc, l1, e1]
    exact hlk
  · have l1 : (rcmp d[y].s d[x].s < 0) = False := eq_false hl
    have ho : Go.Sort.order2 ltS d x y sw = (x, y, sw) := by
      unfold Go.Sort.order2
      rw [ltS_bang d hy hx, if_neg (by simpa using hl)]
    rw [ho]
    simp -dsimp only [go_sem, hB, hC, sx, sy, hx, hy, kc, l1]
    exact (set_same hC).symm
theorem order2_in {d : Array Sd} {x y sw n : Nat} (hx : x < n) (hy : y < n) : (Go.Sort.order2 ltS d x y sw).1 < n ∧ (Go.Sort.order2 ltS d x y sw).2.1 < n ∧ (Go.Sort.order2 ltS d x y sw).2.2 ≤ sw + 1 := by
  unfold Go.Sort.order2
  split
  · exact ⟨hy, hx, Nat.le_refl _⟩
  · exact ⟨hx, hy, Nat.le_succ _⟩
theorem s_med (lk : Nat) (H : Heap) (b c : Nat) (d : Array Sd) (x y z sw : Nat) (hx : x < d.size) (hy : y < d.size) (hz : z < d.size) (hn : d.size ≤ 100000) (hsw : sw ≤ 900) (hlk : lk ≤ c) (hbc : b ≠ c) (hd : AllS d) (hB : ilive H b = some ⟨cells d.toList, 4, false⟩) (hC : ilive H c = some ⟨[.int .i64 (sw : Int)], 1, false⟩) :
    gcall Tryz.prog md lk 315 [.slice (some ⟨b, 0, none⟩) d.size d.size, .int .i64 (x : Int), .int .i64 (y : Int), .int .i64 (z : Int), .pointer (some ⟨c, 0, none⟩), cmpF] H = some (.int .i64 ((Go.Sort.median ltS d x y z sw).1 : Int), H.set c ⟨[.int .i64 ((Go.Sort.median ltS d x y z sw).2 : Int)], 1, false⟩) := by
  refine gcall_raw (by decide) (by decide) (by decide) Tryz.func315 rfl ?_
  have hcl := ilive_lt hC
  have k1 := fun lk (hlk : lk ≤ c) => s_order2 lk H b c d x y sw hx hy hn (by omega) hlk hd hB hC
  have i1 := order2_in (d := d) (sw := sw) hx hy
  unfold Go.Sort.median
  simp only []
  generalize Go.Sort.order2 ltS d x y sw = r1 at *
  obtain ⟨x1, y1, s1⟩ := r1
  simp only [] at k1 i1 ⊢
  have hB1 : ilive (H.set c ⟨[.int .i64 (s1 : Int)], 1, false⟩) b = some ⟨cells d.toList, 4, false⟩ := by rw [ilive_set_ne (fun h => hbc h.symm)]; exact hB
  have hC1 : ilive (H.set c ⟨[.int .i64 (s1 : Int)], 1, false⟩) c = some ⟨[.int .i64 (s1 : Int)], 1, false⟩ := ilive_set_self hcl rfl
  have k2 := fun lk (hlk : lk ≤ c) => s_order2 lk _ b c d y1 z s1 i1.2.1 hz hn (by omega) hlk hd hB1 hC1
  have i2 := order2_in (d := d) (sw := s1) i1.2.1 hz
  generalize Go.Sort.order2 ltS d y1 z s1 = r2 at *
  obtain ⟨y2, z2, s2⟩ := r2
  simp only [List.set_set] at k2 i2 ⊢
  have hB2 : ilive (H.set c ⟨[.int .i64 (s2 : Int)], 1, false⟩) b = some ⟨cells d.toList, 4, false⟩ := by rw [ilive_set_ne (fun h => hbc h.symm)]; exact hB
  have hC2 : ilive (H.set c ⟨[.int .i64 (s2 : Int)], 1, false⟩) c = some ⟨[.int .i64 (s2 : Int)], 1, false⟩ := ilive_set_self hcl rfl
  have k3 := fun lk (hlk : lk ≤ c) => s_order2 lk _ b c d x1 y2 s2 i1.1 i2.1 hn (by omega) hlk hd hB2 hC2
  generalize Go.Sort.order2 ltS d x1 y2 s2 = r3 at *
  obtain ⟨x3, y3, s3⟩ := r3
  simp only [List.set_set] at k3 ⊢
  have k1' := k1 lk hlk
  have k2' := k2 lk hlk
  have k3' := k3 lk hlk
  simp -dsimp only [go_sem, k1', k2', k3']
theorem median_in {d : Array Sd} {x y z sw n : Nat} (hx : x < n) (hy : y < n) (hz : z < n) : (Go.Sort.median ltS d x y z sw).1 < n ∧ (Go.Sort.median ltS d x y z sw).2 ≤ sw + 3 := by
  have h1 := order2_in (d := d) (sw := sw) hx hy
  have h2 := order2_in (d := d) (sw := (Go.Sort.order2 ltS d x y sw).2.2) h1.2.1 hz
  have h3 := order2_in (d := d) (sw := (Go.Sort.order2 ltS d (Go.Sort.order2 ltS d x y sw).2.1 z (Go.Sort.order2 ltS d x y sw).2.2).2.2) h1.1 h2.1
  unfold Go.Sort.median
  simp only []
  exact ⟨h3.2.1, by omega⟩
theorem s_medAdj (lk : Nat) (H : Heap) (b c : Nat) (d : Array Sd) (x sw : Nat) (hx0 : 1 ≤ x) (hx : x + 1 < d.size) (hn : d.size ≤ 100000) (hsw : sw ≤ 900) (hlk : lk ≤ c) (hbc : b ≠ c) (hd : AllS d) (hB : ilive H b = some ⟨cells d.toList, 4, false⟩) (hC : ilive H c = some ⟨[.int .i64 (sw : Int)], 1, false⟩) :
    gcall Tryz.prog md lk 314 [.slice (some ⟨b, 0, none⟩) d.size d.size, .int .i64 (x : Int), .pointer (some ⟨c, 0, none⟩), cmpF] H = some (.int .i64 ((Go.Sort.medianAdjacent ltS d x sw).1 : Int), H.set c ⟨[.int .i64 ((Go.Sort.medianAdjacent ltS d x sw).2 : Int)], 1, false⟩) := by
  refine gcall_raw (by decide) (by decide) (by decide) Tryz.func314 rfl ?_
  have e1 : IntKind.i64.wrap ((x : Int) - 1) = ((x - 1 : Nat) : Int) := by rw [w64 (by omega) (by omega)]; omega
  have e2 : IntKind.i64.wrap ((x : Int) + 1) = ((x + 1 : Nat) : Int) := by rw [w64 (by omega) (by omega)]; omega
  have k1 := s_med lk H b c d (x - 1) x (x + 1) sw (by omega) (by omega) hx hn hsw hlk hbc hd hB hC
  unfold Go.Sort.medianAdjacent
  simp -dsimp only [go_sem, e1, e2, k1]
/-- The hint, as a number. -/
def hintN : Go.Sort.Hint → Int
  | .unknown => 0
  | .increasing => 1
  | .decreasing => 2
theorem s_choose (lk : Nat) (H : Heap) (b : Nat) (d : Array Sd) (a e : Nat) (hae : a + 12 < e) (he : e ≤ d.size) (hn : d.size ≤ 100000) (hd : AllS d) (hB : ilive H b = some ⟨cells d.toList, 4, false⟩) :
    gcall Tryz.prog md lk 280 [.slice (some ⟨b, 0, none⟩) d.size d.size, .int .i64 (a : Int), .int .i64 (e : Int), cmpF] H = some (.tuple #[.int .i64 ((Go.Sort.choosePivot ltS d a e).1 : Int), .int .i64 (hintN (Go.Sort.choosePivot ltS d a e).2)], H) := by
  refine gcall_val rfl Tryz.func280 rfl rfl ?_
  have hbl := ilive_lt hB
  have hbc : b ≠ H.length := by omega
  have f0 : ∀ sw : Nat, ilive (H ++ [⟨[.int .i64 (sw : Int)], 1, false⟩]) b = some ⟨cells d.toList, 4, false⟩ := fun sw => ilive_app hB
  have f1 : ∀ sw : Nat, ilive (H ++ [⟨[.int .i64 (sw : Int)], 1, false⟩]) H.length = some ⟨[.int .i64 (sw : Int)], 1, false⟩ := fun sw => by unfold ilive; simp
  have f2 : ∀ x y : Nat, (H ++ [(⟨[.int .i64 (x : Int)], 1, false⟩ : Blk)]).set H.length ⟨[.int .i64 (y : Int)], 1, false⟩ = H ++ [⟨[.int .i64 (y : Int)], 1, false⟩] := fun x y => by simp
  obtain ⟨l, hl⟩ : ∃ l, l = e - a := ⟨_, rfl⟩
  have e1 : IntKind.i64.wrap ((e : Int) - (a : Int)) = (l : Int) := by rw [w64 (by omega) (by omega)]; omega
  have e2 : IntKind.i64.wrap (Int.tdiv (l : Int) 4) = ((l / 4 : Nat) : Int) := by
    rw [show Int.tdiv (l : Int) 4 = ((l / 4 : Nat) : Int) from rfl, w64 (by omega) (by omega)]
  have e31 : IntKind.i64.wrap (((l / 4 : Nat) : Int) * 1) = ((l / 4 : Nat) : Int) := by rw [w64 (by omega) (by omega)]; omega
  have e32 : IntKind.i64.wrap (((l / 4 : Nat) : Int) * 2) = ((l / 4 * 2 : Nat) : Int) := by rw [w64 (by omega) (by omega)]; omega
  have e33 : IntKind.i64.wrap (((l / 4 : Nat) : Int) * 3) = ((l / 4 * 3 : Nat) : Int) := by rw [w64 (by omega) (by omega)]; omega
  obtain ⟨i, hi⟩ : ∃ i, i = a + l / 4 * 1 := ⟨_, rfl⟩
  obtain ⟨j, hj⟩ : ∃ j, j = a + l / 4 * 2 := ⟨_, rfl⟩
  obtain ⟨k, hk⟩ : ∃ k, k = a + l / 4 * 3 := ⟨_, rfl⟩
  have e41 : IntKind.i64.wrap ((a : Int) + ((l / 4 : Nat) : Int)) = (i : Int) := by rw [w64 (by omega) (by omega)]; omega
  have e42 : IntKind.i64.wrap ((a : Int) + ((l / 4 * 2 : Nat) : Int)) = (j : Int) := by rw [w64 (by omega) (by omega)]; omega
  have e43 : IntKind.i64.wrap ((a : Int) + ((l / 4 * 3 : Nat) : Int)) = (k : Int) := by rw [w64 (by omega) (by omega)]; omega
  have c8 : (8 ≤ (l : Int)) = True := eq_true (by omega)
  unfold Go.Sort.choosePivot
  simp only [← hl, ← hi, ← hj, ← hk]
  rw [if_pos (by omega : l ≥ 8)]
  by_cases h50 : l ≥ 50
  · have c50 : (50 ≤ (l : Int)) = True := eq_true (by omega)
    rw [if_pos h50]
    have k1 := s_medAdj H.length _ b H.length d i 0 (by omega) (by omega) hn (by omega) (Nat.le_refl _) hbc hd (f0 0) (f1 0)
    have m1 := median_in (d := d) (x := i - 1) (y := i) (z := i + 1) (sw := 0) (n := d.size) (by omega) (by omega) (by omega)
    rw [← show Go.Sort.medianAdjacent ltS d i 0 = Go.Sort.median ltS d (i - 1) i (i + 1) 0 from rfl] at m1
    generalize Go.Sort.medianAdjacent ltS d i 0 = r1 at *
    obtain ⟨i2, s1⟩ := r1
    simp only [f2] at k1 m1 ⊢
    have k2 := s_medAdj H.length _ b H.length d j s1 (by omega) (by omega) hn (by omega) (Nat.le_refl _) hbc hd (f0 s1) (f1 s1)
    have m2 := median_in (d := d) (x := j - 1) (y := j) (z := j + 1) (sw := s1) (n := d.size) (by omega) (by omega) (by omega)
    rw [← show Go.Sort.medianAdjacent ltS d j s1 = Go.Sort.median ltS d (j - 1) j (j + 1) s1 from rfl] at m2
    generalize Go.Sort.medianAdjacent ltS d j s1 = r2 at *
    obtain ⟨j2, s2⟩ := r2
    simp only [f2] at k2 m2 ⊢
    have k3 := s_medAdj H.length _ b H.length d k s2 (by omega) (by omega) hn (by omega) (Nat.le_refl _) hbc hd (f0 s2) (f1 s2)
    have m3 := median_in (d := d) (x := k - 1) (y := k) (z := k + 1) (sw := s2) (n := d.size) (by omega) (by omega) (by omega)
    rw [← show Go.Sort.medianAdjacent ltS d k s2 = Go.Sort.median ltS d (k - 1) k (k + 1) s2 from rfl] at m3
    generalize Go.Sort.medianAdjacent ltS d k s2 = r3 at *
    obtain ⟨k2', s3⟩ := r3
    simp only [f2] at k3 m3 ⊢
    have k4 := s_med H.length _ b H.length d i2 j2 k2' s3 m1.1 m2.1 m3.1 hn (by omega) (Nat.le_refl _) hbc hd (f0 s3) (f1 s3)
    generalize Go.Sort.median ltS d i2 j2 k2' s3 = r4 at *
    obtain ⟨j3, s4⟩ := r4
    simp only [f2] at k4 ⊢
    have g1 := f1 s4
    rw [Int.natCast_zero] at k1
    by_cases z0 : s4 = 0
    · subst z0
      rw [if_pos rfl]
      rw [Int.natCast_zero] at k4 g1
      simp -dsimp only [go_sem, e1, e2, e31, e32, e33, e41, e42, e43, c8, c50, k1, k2, k3, k4, g1]
      rfl
    · have z1 : ((s4 : Int) = 0) = False := eq_false (by omega)
      rw [if_neg z0]
      by_cases z12 : s4 = 12
      · have z2 : ((s4 : Int) = 12) = True := eq_true (by omega)
        rw [if_pos z12]
        simp -dsimp only [go_sem, e1, e2, e31, e32, e33, e41, e42, e43, c8, c50, k1, k2, k3, k4, g1, z1, z2]
        rfl
      · have z2 : ((s4 : Int) = 12) = False := eq_false (by omega)
        rw [if_neg z12]
        simp -dsimp only [go_sem, e1, e2, e31, e32, e33, e41, e42, e43, c8, c50, k1, k2, k3, k4, g1, z1, z2]
        rfl
  · have c50 : (50 ≤ (l : Int)) = False := eq_false (by omega)
    rw [if_neg h50]
    have k4 := s_med H.length _ b H.length d i j k 0 (by omega) (by omega) (by omega) hn (by omega) (Nat.le_refl _) hbc hd (f0 0) (f1 0)
    generalize Go.Sort.median ltS d i j k 0 = r4 at *
    obtain ⟨j3, s4⟩ := r4
    simp only [f2] at k4 ⊢
    have g1 := f1 s4
    rw [Int.natCast_zero] at k4
    by_cases z0 : s4 = 0
    · subst z0
      rw [if_pos rfl]
      rw [Int.natCast_zero] at k4 g1
      simp -dsimp only [go_sem, e1, e2, e31, e32, e33, e41, e42, e43, c8, c50, k4, g1]
      rfl
    · have z1 : ((s4 : Int) = 0) = False := eq_false (by omega)
      rw [if_neg z0]
      by_cases z12 : s4 = 12
      · have z2 : ((s4 : Int) = 12) = True := eq_true (by omega)
        rw [if_pos z12]
        simp -dsimp only [go_sem, e1, e2, e31, e32, e33, e41, e42, e43, c8, c50, k4, g1, z1, z2]
        rfl
      · have z2 : ((s4 : Int) = 12) = False := eq_false (by omega)
        rw [if_neg z12]
        simp -dsimp only [go_sem, e1, e2, e31, e32, e33, e41, e42, e43, c8, c50, k4, g1, z1, z2]
        rfl
end Gx
end
section
set_option autoImplicit false
namespace Gx
open Go Go.Proofs
set_option maxRecDepth 10000
section
variable {P : Program} {md : FuncId → Nat} {lk : Nat} {σ : Env} {H : Heap} {Q : Ex → Env → Heap → Prop}
theorem r_meet {a : Code} (J : Env → Heap → Prop) (h1 : Runs P md lk a σ H (Join J Q)) (h3 : ∀ σ H, J σ H → Q .normal σ H) : Runs P md lk a σ H Q := by
  refine h1.mono ?_
  intro e σ H h
  cases e with
  | normal => exact h3 σ H h
  | exit i => exact h
  | ret => exact h
theorem gw_meet {c : Bool} {A B : Code} {σ' : Env} {H' : Heap} (J : Env → Heap → Prop) (h1 : c = true → Runs P md lk A σ H (Join J Q)) (h2 : c = false → Runs P md lk B σ' H' (Join J Q)) (h3 : ∀ σ H, J σ H → Q .normal σ H) : gw (some c) (Runs P md lk A σ H Q) (Runs P md lk B σ' H' Q) :=
  gw_iff (fun h => r_meet J (h1 h) h3) (fun h => r_meet J (h2 h) h3)
end
theorem scanSorted_go {d : Array Sd} {e i : Nat} (h : i < e) (hl : ltS d[i]! d[i - 1]! = false) : Go.Sort.scanSorted ltS d e i = Go.Sort.scanSorted ltS d e (i + 1) := by
  conv => lhs; unfold Go.Sort.scanSorted
  rw [if_pos (by simp [h, hl])]
theorem scanSorted_stop {d : Array Sd} {e i : Nat} (h : ¬ (i < e ∧ ltS d[i]! d[i - 1]! = false)) : Go.Sort.scanSorted ltS d e i = i := by
  unfold Go.Sort.scanSorted
  rw [if_neg (by simpa using h)]
theorem shiftDown_go {d : Array Sd} {j : Nat} (hl : ltS d[j + 1]! d[j]! = true) : Go.Sort.shiftDown ltS (j + 1) d = Go.Sort.shiftDown ltS j (Go.Sort.swp d (j + 1) j) := by
  conv => lhs; unfold Go.Sort.shiftDown
  rw [if_neg (by simp [hl])]
theorem shiftDown_stop {d : Array Sd} {j : Nat} (hl : ltS d[j + 1]! d[j]! = false) : Go.Sort.shiftDown ltS (j + 1) d = d := by
  unfold Go.Sort.shiftDown
  rw [if_pos (by simp [hl])]
theorem shiftUp_go {d : Array Sd} {e j : Nat} (h : j < e) (hl : ltS d[j]! d[j - 1]! = true) : Go.Sort.shiftUp ltS e j d = Go.Sort.shiftUp ltS e (j + 1) (Go.Sort.swp d j (j - 1)) := by
  conv => lhs; unfold Go.Sort.shiftUp
  rw [if_pos h, if_neg (by simp [hl])]
theorem shiftUp_stop {d : Array Sd} {e j : Nat} (h : j < e) (hl : ltS d[j]! d[j - 1]! = false) : Go.Sort.shiftUp ltS e j d = d := by
  unfold Go.Sort.shiftUp
  rw [if_pos h, if_pos (by simp [hl])]
theorem shiftUp_end {d : Array Sd} {e j : Nat} (h : ¬ j < e) : Go.Sort.shiftUp ltS e j d = d := by
  unfold Go.Sort.shiftUp
  rw [if_neg h]
theorem partialIns_end {a e i : Nat} {d : Array Sd} (s : Nat) (h : Go.Sort.scanSorted ltS d e i = e) : Go.Sort.partialIns ltS a e (s + 1) i d = (d, true) := by
  unfold Go.Sort.partialIns
  simp only []
  rw [h, if_pos rfl]
theorem partialIns_short {a e i : Nat} {d : Array Sd} (s : Nat) (h : Go.Sort.scanSorted ltS d e i ≠ e) (h2 : e - a < 50) : Go.Sort.partialIns ltS a e (s + 1) i d = (d, false) := by
  unfold Go.Sort.partialIns
  simp only []
  rw [if_neg h, if_pos h2]
/-- One step of the insertion sort of neighbours. -/
def pstep (a e i : Nat) (d : Array Sd) : Array Sd :=
  let d := Go.Sort.swp d i (i - 1)
  let d := if i - a ≥ 2 then Go.Sort.shiftDown ltS (i - 1) d else d
  if e - i ≥ 2 then Go.Sort.shiftUp ltS e (i + 1) d else d
theorem partialIns_go {a e i : Nat} {d : Array Sd} (s : Nat) (h : Go.Sort.scanSorted ltS d e i ≠ e) (h2 : ¬ e - a < 50) : Go.Sort.partialIns ltS a e (s + 1) i d = Go.Sort.partialIns ltS a e s (Go.Sort.scanSorted ltS d e i) (pstep a e (Go.Sort.scanSorted ltS d e i) d) := by
  conv => lhs; unfold Go.Sort.partialIns
  simp only []
  rw [if_neg h, if_neg h2]
  rfl
theorem s_pins (lk : Nat) (H : Heap) (b : Nat) (d : Array Sd) (a e : Nat) (hae : a < e) (he : e ≤ d.size) (hn : d.size ≤ 100000) (hlk : lk ≤ b) (hd : AllS d) (hB : ilive H b = some ⟨cells d.toList, 4, false⟩) :
    gcall Tryz.prog md lk 282 [.slice (some ⟨b, 0, none⟩) d.size d.size, .int .i64 (a : Int), .int .i64 (e : Int), cmpF] H = some (.bool (Go.Sort.partialInsertionSort ltS d a e).2, H.set b ⟨cells (Go.Sort.partialInsertionSort ltS d a e).1.toList, 4, false⟩) := by
  refine gcall_raw (by decide) (by decide) (by decide) Tryz.func282 rfl ?_
  have hset := ilive_same hB
  have e1 : IntKind.i64.wrap ((a : Int) + 1) = ((a + 1 : Nat) : Int) := by rw [w64 (by omega) (by omega)]; omega
  simp -dsimp only [go_sem, e1]
  refine r_loop (m := fun (s : Nat × Nat × Array Sd) => s.1) (I := fun s σ H' => s.1 ≤ 5 ∧ a + 1 ≤ s.2.1 ∧ s.2.1 ≤ e ∧ s.2.2.size = d.size ∧ AllS s.2.2 ∧ Go.Sort.partialIns ltS a e s.1 s.2.1 s.2.2 = Go.Sort.partialInsertionSort ltS d a e ∧ H' = H.set b ⟨cells s.2.2.toList, 4, false⟩ ∧ σ 0 = .slice (some ⟨b, 0, none⟩) d.size d.size ∧ σ 1 = .int .i64 (a : Int) ∧ σ 2 = .int .i64 (e : Int) ∧ σ 3 = cmpF ∧ σ 9 = .int .i64 (s.2.1 : Int) ∧ σ 10 = .int .i64 (5 - (s.1 : Int))) (5, a + 1, d) ⟨Nat.le_refl _, Nat.le_refl _, by simp only []; omega, rfl, hd, rfl, (set_same hB).symm, rfl, rfl, rfl, rfl, rfl, rfl⟩ ?_
  rintro ⟨s, i0, d1⟩ σ H' ⟨hs, i1, i2, z1, hd1, hI, rfl, g0, g1, g2, g3, g9, g10⟩
  simp only [] at hs i1 i2 z1 hd1 hI g9 g10
  cases s with
  | zero =>
    have c1 : ((5 : Int) - ((0 : Nat) : Int) < 5) = False := eq_false (by omega)
    rw [show Go.Sort.partialIns ltS a e 0 i0 d1 = (d1, false) from rfl] at hI
    rw [← hI]
    rw [Int.natCast_zero] at g10 c1
    simp -dsimp only [go_sem, g10, c1]
  | succ s =>
    have c1 : ((5 : Int) - ((s + 1 : Nat) : Int) < 5) = True := eq_true (by omega)
    simp -dsimp only [go_sem, g10, c1]
    refine r_loop_to 2 (J := fun σ H' => ∃ i : Nat, i = Go.Sort.scanSorted ltS d1 e i0 ∧ a + 1 ≤ i ∧ i ≤ e ∧ H' = H.set b ⟨cells d1.toList, 4, false⟩ ∧ σ 0 = .slice (some ⟨b, 0, none⟩) d.size d.size ∧ σ 1 = .int .i64 (a : Int) ∧ σ 2 = .int .i64 (e : Int) ∧ σ 3 = cmpF ∧ σ 9 = .int .i64 (i : Int) ∧ σ 10 = .int .i64 (5 - ((s + 1 : Nat) : Int))) (m := fun i : Nat => e - i) (I := fun (i : Nat) σ H' => a + 1 ≤ i ∧ i ≤ e ∧ Go.Sort.scanSorted ltS d1 e i = Go.Sort.scanSorted ltS d1 e i0 ∧ H' = H.set b ⟨cells d1.toList, 4, false⟩ ∧ σ 0 = .slice (some ⟨b, 0, none⟩) d.size d.size ∧ σ 1 = .int .i64 (a : Int) ∧ σ 2 = .int .i64 (e : Int) ∧ σ 3 = cmpF ∧ σ 9 = .int .i64 (i : Int) ∧ σ 10 = .int .i64 (5 - ((s + 1 : Nat) : Int))) i0 ⟨i1, i2, rfl, rfl, g0, g1, g2, g3, g9, g10⟩ ?_ ?_
    · clear g0 g1 g2 g3 g9 g10
      rintro i σ H' ⟨j1, j2, hJ, rfl, g0, g1, g2, g3, g9, g10⟩
      by_cases hi : i < e
      · have c2 : ((i : Int) < (e : Int)) = True := eq_true (by omega)
        have e2 : IntKind.i64.wrap ((i : Int) - 1) = ((i - 1 : Nat) : Int) := by rw [w64 (by omega) (by omega)]; omega
        have e3 : IntKind.i64.wrap ((i : Int) + 1) = ((i + 1 : Nat) : Int) := by rw [w64 (by omega) (by omega)]; omega
        have hx : i < d1.size := by omega
        have hy : i - 1 < d1.size := by omega
        have hx' : i < d.size := by omega
        have hy' : i - 1 < d.size := by omega
        have sx := sdg d1 _ hx
        have sy := sdg d1 _ hy
        have kc := cmpS_run hd1 hx hy
        by_cases hl : rcmp d1[i].s d1[i - 1].s < 0
        · have l1 : (rcmp d1[i].s d1[i - 1].s < 0) = True := eq_true hl
          simp -dsimp only [go_sem, g0, g2, g3, g9, c2, e2, hset, sx, sy, hx', hy', kc, l1]
          exact mk ⟨i, by rw [← hJ, scanSorted_stop (fun h => by have := h.2; rw [ltS_bang d1 hx hy] at this; exact of_decide_eq_false this hl)], j1, j2, rfl, g0, g1, g2, g3, g9, g10⟩
        · have l1 : (rcmp d1[i].s d1[i - 1].s < 0) = False := eq_false hl
          simp -dsimp only [go_sem, g0, g2, g3, g9, c2, e2, e3, hset, sx, sy, hx', hy', kc, l1]
          exact next (i + 1) (by show _ < _; omega) ⟨by omega, by omega, by rw [← hJ, scanSorted_go hi (by rw [ltS_bang d1 hx hy]; exact decide_eq_false hl)], rfl, g0, g1, g2, g3, rfl, g10⟩
      · have c2 : ((i : Int) < (e : Int)) = False := eq_false (by omega)
        simp -dsimp only [go_sem, g2, g9, c2]
        exact mk ⟨i, by rw [← hJ, scanSorted_stop (fun h => hi h.1)], j1, j2, rfl, g0, g1, g2, g3, g9, g10⟩
    clear g0 g1 g2 g3 g9 g10
    rintro σ H' ⟨i, hi, j1, j2, rfl, g0, g1, g2, g3, g9, g10⟩
    by_cases hie : i = e
    · have c2 : ((i : Int) = (e : Int)) = True := eq_true (by omega)
      rw [partialIns_end s (by rw [← hi]; exact hie)] at hI
      rw [← hI]
      simp -dsimp only [go_sem, g2, g9, c2]
    · have c2 : ((i : Int) = (e : Int)) = False := eq_false (by omega)
      have e2 : IntKind.i64.wrap ((e : Int) - (a : Int)) = ((e - a : Nat) : Int) := by rw [w64 (by omega) (by omega)]; omega
      by_cases h50 : e - a < 50
      · have c3 : (((e - a : Nat) : Int) < 50) = True := eq_true (by omega)
        rw [partialIns_short s (by rw [← hi]; exact hie) h50] at hI
        rw [← hI]
        simp -dsimp only [go_sem, g1, g2, g9, c2, e2, c3]
      · have c3 : (((e - a : Nat) : Int) < 50) = False := eq_false (by omega)
        rw [partialIns_go s (by rw [← hi]; exact hie) h50, ← hi] at hI
        have e3 : IntKind.i64.wrap ((i : Int) - 1) = ((i - 1 : Nat) : Int) := by rw [w64 (by omega) (by omega)]; omega
        have e4 : IntKind.i64.wrap ((i : Int) - (a : Int)) = ((i - a : Nat) : Int) := by rw [w64 (by omega) (by omega)]; omega
        have hx : i < d1.size := by omega
        have hy : i - 1 < d1.size := by omega
        have hx' : i < d.size := by omega
        have hy' : i - 1 < d.size := by omega
        have sx := sdg d1 _ hx
        have sy := sdg d1 _ hy
        have p1 := sdp1 d1 _ _ hx hy
        have p2 := sdp2 d1 _ _ hx hy
        have q1 := sdl d1
        have q2 := sdl2 d1 i d1[i - 1]
        have hd2 := hd1.swp hx hy
        have z2 : (Go.Sort.swp d1 i (i - 1)).size = d.size := by rw [swp_size]; exact z1
        unfold pstep at hI
        simp only [] at hI
        simp -dsimp only [go_sem, g0, g1, g2, g9, c2, e2, c3, e3, e4, hset, sx, sy, hx', hy', p1, p2, List.set_set]
        refine ⟨⟨hlk, by omega⟩, ⟨hlk, by omega⟩, ?_⟩
        generalize Go.Sort.swp d1 i (i - 1) = d2 at *
        clear p1 p2 q1 q2 sx sy
        refine gw_join (fun σ H' => ∃ d3, d3 = (if i - a ≥ 2 then Go.Sort.shiftDown ltS (i - 1) d2 else d2) ∧ d3.size = d.size ∧ AllS d3 ∧ H' = H.set b ⟨cells d3.toList, 4, false⟩ ∧ σ 0 = .slice (some ⟨b, 0, none⟩) d.size d.size ∧ σ 1 = .int .i64 (a : Int) ∧ σ 2 = .int .i64 (e : Int) ∧ σ 3 = cmpF ∧ σ 9 = .int .i64 (i : Int) ∧ σ 10 = .int .i64 (5 - ((s + 1 : Nat) : Int))) (fun h => ?_) (fun h => ?_) ?_
        · have h := of_decide_eq_true h
          have h2 : i - a ≥ 2 := by omega
          rw [if_pos h2]
          simp -dsimp only [go_sem, g9, e3]
          refine r_loop_to 4 (J := fun σ H' => ∃ d3, d3 = Go.Sort.shiftDown ltS (i - 1) d2 ∧ d3.size = d.size ∧ AllS d3 ∧ H' = H.set b ⟨cells d3.toList, 4, false⟩ ∧ σ 0 = .slice (some ⟨b, 0, none⟩) d.size d.size ∧ σ 1 = .int .i64 (a : Int) ∧ σ 2 = .int .i64 (e : Int) ∧ σ 3 = cmpF ∧ σ 9 = .int .i64 (i : Int) ∧ σ 10 = .int .i64 (5 - ((s + 1 : Nat) : Int))) (m := fun (s : Nat × Array Sd) => s.1) (I := fun (t : Nat × Array Sd) σ H' => t.1 ≤ i - 1 ∧ Go.Sort.shiftDown ltS t.1 t.2 = Go.Sort.shiftDown ltS (i - 1) d2 ∧ t.2.size = d.size ∧ AllS t.2 ∧ H' = H.set b ⟨cells t.2.toList, 4, false⟩ ∧ σ 0 = .slice (some ⟨b, 0, none⟩) d.size d.size ∧ σ 1 = .int .i64 (a : Int) ∧ σ 2 = .int .i64 (e : Int) ∧ σ 3 = cmpF ∧ σ 9 = .int .i64 (i : Int) ∧ σ 10 = .int .i64 (5 - ((s + 1 : Nat) : Int)) ∧ σ 11 = .int .i64 (t.1 : Int)) (i - 1, d2) ⟨Nat.le_refl _, rfl, z2, hd2, rfl, g0, g1, g2, g3, g9, g10, rfl⟩ ?_ ?_
          · clear g0 g1 g2 g3 g9 g10
            rintro ⟨j, d3⟩ σ H' ⟨j1, hJ, z3, hd3, rfl, g0, g1, g2, g3, g9, g10, g11⟩
            simp only [] at j1 hJ z3 hd3 g11
            cases j with
            | zero =>
              rw [show Go.Sort.shiftDown ltS 0 d3 = d3 from rfl] at hJ
              have c4 : (1 ≤ ((0 : Nat) : Int)) = False := eq_false (by omega)
              rw [Int.natCast_zero] at g11 c4
              simp -dsimp only [go_sem, g11, c4]
              exact mk ⟨d3, hJ, z3, hd3, rfl, g0, g1, g2, g3, g9, g10⟩
            | succ j =>
              have c4 : (1 ≤ ((j + 1 : Nat) : Int)) = True := eq_true (by omega)
              have e5 : IntKind.i64.wrap (((j + 1 : Nat) : Int) - 1) = (j : Int) := by rw [w64 (by omega) (by omega)]; omega
              have hx : j + 1 < d3.size := by omega
              have hy : j < d3.size := by omega
              have hx' : j + 1 < d.size := by omega
              have hy' : j < d.size := by omega
              have sx := sdg d3 _ hx
              have sy := sdg d3 _ hy
              have kc := cmpS_run hd3 hx hy
              by_cases hl : rcmp d3[j + 1].s d3[j].s < 0
              · have l1 : (rcmp d3[j + 1].s d3[j].s < 0) = True := eq_true hl
                have p1 := sdp1 d3 _ _ hx hy
                have p2 := sdp2 d3 _ _ hx hy
                have q1 := sdl d3
                have q2 := sdl2 d3 (j + 1) d3[j]
                rw [shiftDown_go (by rw [ltS_bang d3 hx hy]; exact decide_eq_true hl)] at hJ
                simp -dsimp only [go_sem, g0, g3, g11, c4, e5, hset, sx, sy, hx', hy', kc, l1, p1, p2, List.set_set]
                exact ⟨⟨hlk, by omega⟩, ⟨hlk, by omega⟩, next (j, Go.Sort.swp d3 (j + 1) j) (by show j < j + 1; omega) ⟨by simp only []; omega, hJ, by simp only []; rw [swp_size]; exact z3, hd3.swp hx hy, rfl, g0, g1, g2, g3, g9, g10, rfl⟩⟩
              · have l1 : (rcmp d3[j + 1].s d3[j].s < 0) = False := eq_false hl
                rw [shiftDown_stop (by rw [ltS_bang d3 hx hy]; exact decide_eq_false hl)] at hJ
                simp -dsimp only [go_sem, g0, g3, g11, c4, e5, hset, sx, sy, hx', hy', kc, l1]
                exact mk ⟨d3, hJ, z3, hd3, rfl, g0, g1, g2, g3, g9, g10⟩
          · rintro σ H' ⟨d3, hJ, z3, hd3, rfl, g0, g1, g2, g3, g9, g10⟩
            simp -dsimp only [go_sem]
            exact ⟨d3, hJ, z3, hd3, rfl, g0, g1, g2, g3, g9, g10⟩
        · have h := of_decide_eq_false h
          have h2 : ¬ i - a ≥ 2 := by omega
          rw [if_neg h2]
          simp -dsimp only [go_sem]
          exact ⟨d2, rfl, z2, hd2, rfl, g0, g1, g2, g3, g9, g10⟩
        clear g0 g1 g2 g3 g9 g10
        rintro σ H' ⟨d3, hJ, z3, hd3, rfl, g0, g1, g2, g3, g9, g10⟩
        rw [← hJ] at hI
        have e6 : IntKind.i64.wrap ((e : Int) - (i : Int)) = ((e - i : Nat) : Int) := by rw [w64 (by omega) (by omega)]; omega
        have e7 : IntKind.i64.wrap ((i : Int) + 1) = ((i + 1 : Nat) : Int) := by rw [w64 (by omega) (by omega)]; omega
        simp -dsimp only [go_sem, g2, g9, e6]
        refine gw_meet (fun σ H' => ∃ d4, d4 = (if e - i ≥ 2 then Go.Sort.shiftUp ltS e (i + 1) d3 else d3) ∧ d4.size = d.size ∧ AllS d4 ∧ H' = H.set b ⟨cells d4.toList, 4, false⟩ ∧ σ 0 = .slice (some ⟨b, 0, none⟩) d.size d.size ∧ σ 1 = .int .i64 (a : Int) ∧ σ 2 = .int .i64 (e : Int) ∧ σ 3 = cmpF ∧ σ 9 = .int .i64 (i : Int) ∧ σ 10 = .int .i64 (5 - ((s + 1 : Nat) : Int))) (fun h => ?_) (fun h => ?_) ?_
        · have h := of_decide_eq_true h
          have h2 : e - i ≥ 2 := by omega
          rw [if_pos h2]
          simp -dsimp only [go_sem, g9, e7]
          refine r_loop_to 6 (J := fun σ H' => ∃ d4, d4 = Go.Sort.shiftUp ltS e (i + 1) d3 ∧ d4.size = d.size ∧ AllS d4 ∧ H' = H.set b ⟨cells d4.toList, 4, false⟩ ∧ σ 0 = .slice (some ⟨b, 0, none⟩) d.size d.size ∧ σ 1 = .int .i64 (a : Int) ∧ σ 2 = .int .i64 (e : Int) ∧ σ 3 = cmpF ∧ σ 9 = .int .i64 (i : Int) ∧ σ 10 = .int .i64 (5 - ((s + 1 : Nat) : Int))) (m := fun (s : Nat × Array Sd) => e - s.1) (I := fun (t : Nat × Array Sd) σ H' => i + 1 ≤ t.1 ∧ t.1 ≤ e ∧ Go.Sort.shiftUp ltS e t.1 t.2 = Go.Sort.shiftUp ltS e (i + 1) d3 ∧ t.2.size = d.size ∧ AllS t.2 ∧ H' = H.set b ⟨cells t.2.toList, 4, false⟩ ∧ σ 0 = .slice (some ⟨b, 0, none⟩) d.size d.size ∧ σ 1 = .int .i64 (a : Int) ∧ σ 2 = .int .i64 (e : Int) ∧ σ 3 = cmpF ∧ σ 9 = .int .i64 (i : Int) ∧ σ 10 = .int .i64 (5 - ((s + 1 : Nat) : Int)) ∧ σ 12 = .int .i64 (t.1 : Int)) (i + 1, d3) ⟨Nat.le_refl _, by simp only []; omega, rfl, z3, hd3, rfl, g0, g1, g2, g3, g9, g10, rfl⟩ ?_ ?_
          · clear g0 g1 g2 g3 g9 g10
            rintro ⟨j, d4⟩ σ H' ⟨j1, j2, hK, z4, hd4, rfl, g0, g1, g2, g3, g9, g10, g12⟩
            simp only [] at j1 j2 hK z4 hd4 g12
            by_cases hj : j < e
            · have c4 : ((j : Int) < (e : Int)) = True := eq_true (by omega)
              have e5 : IntKind.i64.wrap ((j : Int) - 1) = ((j - 1 : Nat) : Int) := by rw [w64 (by omega) (by omega)]; omega
              have e8 : IntKind.i64.wrap ((j : Int) + 1) = ((j + 1 : Nat) : Int) := by rw [w64 (by omega) (by omega)]; omega
              have hx : j < d4.size := by omega
              have hy : j - 1 < d4.size := by omega
              have hx' : j < d.size := by omega
              have hy' : j - 1 < d.size := by omega
              have sx := sdg d4 _ hx
              have sy := sdg d4 _ hy
              have kc := cmpS_run hd4 hx hy
              by_cases hl : rcmp d4[j].s d4[j - 1].s < 0
              · have l1 : (rcmp d4[j].s d4[j - 1].s < 0) = True := eq_true hl
                have p1 := sdp1 d4 _ _ hx hy
                have p2 := sdp2 d4 _ _ hx hy
                have q1 := sdl d4
                have q2 := sdl2 d4 j d4[j - 1]
                rw [shiftUp_go hj (by rw [ltS_bang d4 hx hy]; exact decide_eq_true hl)] at hK
                simp -dsimp only [go_sem, g0, g2, g3, g12, c4, e5, e8, hset, sx, sy, hx', hy', kc, l1, p1, p2, List.set_set]
                exact ⟨⟨hlk, by omega⟩, ⟨hlk, by omega⟩, next (j + 1, Go.Sort.swp d4 j (j - 1)) (by show e - (j + 1) < e - j; omega) ⟨by simp only []; omega, by simp only []; omega, hK, by simp only []; rw [swp_size]; exact z4, hd4.swp hx hy, rfl, g0, g1, g2, g3, g9, g10, rfl⟩⟩
              · have l1 : (rcmp d4[j].s d4[j - 1].s < 0) = False := eq_false hl
                rw [shiftUp_stop hj (by rw [ltS_bang d4 hx hy]; exact decide_eq_false hl)] at hK
                simp -dsimp only [go_sem, g0, g2, g3, g12, c4, e5, hset, sx, sy, hx', hy', kc, l1]
                exact mk ⟨d4, hK, z4, hd4, rfl, g0, g1, g2, g3, g9, g10⟩
            · have c4 : ((j : Int) < (e : Int)) = False := eq_false (by omega)
              rw [shiftUp_end hj] at hK
              simp -dsimp only [go_sem, g2, g12, c4]
              exact mk ⟨d4, hK, z4, hd4, rfl, g0, g1, g2, g3, g9, g10⟩
          · rintro σ H' ⟨d4, hK, z4, hd4, rfl, g0, g1, g2, g3, g9, g10⟩
            simp -dsimp only [go_sem]
            exact ⟨d4, hK, z4, hd4, rfl, g0, g1, g2, g3, g9, g10⟩
        · have h := of_decide_eq_false h
          have h2 : ¬ e - i ≥ 2 := by omega
          rw [if_neg h2]
          simp -dsimp only [go_sem]
          exact ⟨d3, rfl, z3, hd3, rfl, g0, g1, g2, g3, g9, g10⟩
        clear g0 g1 g2 g3 g9 g10
        rintro σ H' ⟨d4, hK, z4, hd4, rfl, g0, g1, g2, g3, g9, g10⟩
        rw [← hK] at hI
        have e9 : IntKind.i64.wrap (5 - ((s + 1 : Nat) : Int) + 1) = 5 - (s : Int) := by rw [w64 (by omega) (by omega)]; omega
        simp -dsimp only [go_sem, g10, e9]
        exact next (s, i, d4) (by show s < s + 1; omega) ⟨by simp only []; omega, by simp only []; omega, by simp only []; omega, z4, hd4, hI, rfl, g0, g1, g2, g3, g9, rfl⟩
end Gx
end
section
set_option autoImplicit false
namespace Gx
open Go Go.Proofs
set_option maxRecDepth 10000
theorem xor_u64 (x y : UInt64) : ibits .xor .u64 (x.toNat : Int) (y.toNat : Int) = some (.int .u64 ((x ^^^ y).toNat : Int)) := by
  have h : (BitVec.ofNat 64 x.toNat ^^^ BitVec.ofNat 64 y.toNat).toNat = (x ^^^ y).toNat := by
    rw [BitVec.toNat_xor, BitVec.toNat_ofNat, BitVec.toNat_ofNat, Nat.mod_eq_of_lt x.toNat_lt, Nat.mod_eq_of_lt y.toNat_lt, UInt64.toNat_xor]
  show some (Value.int .u64 (IntKind.u64.wrap ((BitVec.ofInt 64 (x.toNat : Int) ^^^ BitVec.ofInt 64 (y.toNat : Int)).toNat : Int))) = _
  rw [BitVec.ofInt_natCast, BitVec.ofInt_natCast, h, IntKind.wrap_u64]
  have := (x ^^^ y).toNat_lt
  congr 2
  omega
theorem and_u64 (x y : Nat) (hx : x < 18446744073709551616) (hy : y < 18446744073709551616) : ibits .and .u64 (x : Int) (y : Int) = some (.int .u64 ((x &&& y : Nat) : Int)) := by
  have h : (BitVec.ofNat 64 x &&& BitVec.ofNat 64 y).toNat = x &&& y := by
    rw [BitVec.toNat_and, BitVec.toNat_ofNat, BitVec.toNat_ofNat, Nat.mod_eq_of_lt hx, Nat.mod_eq_of_lt hy]
  show some (Value.int .u64 (IntKind.u64.wrap ((BitVec.ofInt 64 (x : Int) &&& BitVec.ofInt 64 (y : Int)).toNat : Int))) = _
  rw [BitVec.ofInt_natCast, BitVec.ofInt_natCast, h, IntKind.wrap_u64]
  have : x &&& y ≤ x := Nat.and_le_left
  congr 2
  omega
theorem shl_u64 (r : UInt64) (k : Nat) (hk : k < 64) : IntKind.u64.wrap ((r.toNat : Int) * 2 ^ min k 64) = ((r <<< UInt64.ofNat k).toNat : Int) := by
  rw [Nat.min_eq_left (by omega), u64shl, UInt64.toNat_shiftLeft, Nat.shiftLeft_eq]
  rw [show (UInt64.ofNat k).toNat = k from by rw [UInt64.toNat_ofNat']; omega, Nat.mod_eq_of_lt hk]
theorem shr_u64 (r : UInt64) (k : Nat) (hk : k < 64) : Int.fdiv (r.toNat : Int) (2 ^ min k 64) = ((r >>> UInt64.ofNat k).toNat : Int) := by
  rw [Nat.min_eq_left (by omega), u64shr, UInt64.toNat_shiftRight, Nat.shiftRight_eq_div_pow]
  rw [show (UInt64.ofNat k).toNat = k from by rw [UInt64.toNat_ofNat']; omega, Nat.mod_eq_of_lt hk]
theorem s_next (lk : Nat) (H : Heap) (c : Nat) (r : UInt64) (hlk : lk ≤ c) (hC : ilive H c = some ⟨[.int .u64 (r.toNat : Int)], 1, false⟩) :
    gcall Tryz.prog md lk 313 [.pointer (some ⟨c, 0, none⟩)] H = some (.int .u64 ((Go.Sort.xorNext r).toNat : Int), H.set c ⟨[.int .u64 ((Go.Sort.xorNext r).toNat : Int)], 1, false⟩) := by
  refine gcall_raw (by decide) (by decide) (by decide) Tryz.func313 rfl ?_
  have hcl := ilive_lt hC
  have hset : ∀ l, ilive (H.set c ⟨l, 1, false⟩) c = some ⟨l, 1, false⟩ := fun l => ilive_set_self hcl rfl
  obtain ⟨r1, h1⟩ : ∃ r1, r1 = r ^^^ (r <<< 13) := ⟨_, rfl⟩
  obtain ⟨r2, h2⟩ : ∃ r2, r2 = r1 ^^^ (r1 >>> 7) := ⟨_, rfl⟩
  obtain ⟨r3, h3⟩ : ∃ r3, r3 = r2 ^^^ (r2 <<< 17) := ⟨_, rfl⟩
  have hx : Go.Sort.xorNext r = r3 := by unfold Go.Sort.xorNext; simp only []; rw [h3, h2, h1]
  rw [hx]
  have s1 := shl_u64 r 13 (by decide)
  have s2 := shr_u64 r1 7 (by decide)
  have s3 := shl_u64 r2 17 (by decide)
  have x1 := xor_u64 r (r <<< UInt64.ofNat 13)
  have x2 := xor_u64 r1 (r1 >>> UInt64.ofNat 7)
  have x3 := xor_u64 r2 (r2 <<< UInt64.ofNat 17)
  rw [show r ^^^ (r <<< UInt64.ofNat 13) = r1 from h1.symm] at x1
  rw [show r1 ^^^ (r1 >>> UInt64.ofNat 7) = r2 from h2.symm] at x2
  rw [show r2 ^^^ (r2 <<< UInt64.ofNat 17) = r3 from h3.symm] at x3
  generalize r <<< UInt64.ofNat 13 = y1 at *
  generalize r1 >>> UInt64.ofNat 7 = y2 at *
  generalize r2 <<< UInt64.ofNat 17 = y3 at *
  simp -dsimp only [go_sem, hC, hset, List.set_set, s1, s2, s3, x1, x2, x3]
  exact hlk
theorem c_Len (lk : Nat) (H : Heap) (x : Nat) (hx : x < B64) : gcall Tryz.prog md lk 221 [.int .u64 (x : Int)] H = some (.int .i64 ((blen x : Nat) : Int), H) := by
  refine gcall_val rfl Tryz.func221 rfl rfl ?_
  simp -dsimp only [go_sem, c_Len64 _ _ _ hx]
theorem blen_le17 {x : Nat} (h : x ≤ 100000) : blen x ≤ 17 := by
  unfold blen
  split
  · omega
  · rename_i h0
    have := (Nat.log2_lt h0 (k := 17)).2 (by omega)
    omega
theorem s_npow (lk : Nat) (H : Heap) (x : Nat) (hx : x ≤ 100000) : gcall Tryz.prog md lk 312 [.int .i64 (x : Int)] H = some (.int .u64 ((2 ^ blen x : Nat) : Int), H) := by
  refine gcall_val rfl Tryz.func312 rfl rfl ?_
  have k1 := fun lk H' => c_Len lk H' x (by simp only [B64]; omega)
  have e1 : IntKind.u64.wrap (x : Int) = (x : Int) := by rw [IntKind.wrap_u64]; omega
  have hb := blen_le17 hx
  have c1 : (0 ≤ (blen x : Int)) = True := eq_true (by omega)
  have e2 : IntKind.u64.wrap (1 * 2 ^ min (blen x) 64) = ((2 ^ blen x : Nat) : Int) := by
    rw [Nat.min_eq_left (by omega)]
    have := u64shl 1 (blen x)
    rw [Int.natCast_one] at this
    rw [this, Nat.one_mul, Nat.mod_eq_of_lt]
    calc 2 ^ blen x ≤ 2 ^ 17 := Nat.pow_le_pow_right (by decide) hb
      _ < _ := by decide
  simp -dsimp only [go_sem, k1, e1, c1, e2]
end Gx
end
section
set_option autoImplicit false
namespace Gx
open Go Go.Proofs
set_option maxRecDepth 10000
/-- So many rounds of breaking patterns, from idx. -/
def brk (a l m : Nat) : Nat → Nat → UInt64 × Array Sd → UInt64 × Array Sd
  | 0, _, st => st
  | n + 1, idx, st => brk a l m n (idx + 1) (Go.Sort.breakStep a l m st idx)
theorem brk_eq {d : Array Sd} {a e : Nat} (h : e - a ≥ 8) : Go.Sort.breakPatterns d a e = (brk a (e - a) (2 ^ blen (e - a)) 3 (a + (e - a) / 4 * 2 - 1) (UInt64.ofNat (e - a), d)).2 := by
  unfold Go.Sort.breakPatterns
  simp only []
  rw [if_pos h, Nat.one_shiftLeft]
  rfl
theorem breakStep_eq (a l m : Nat) (st : UInt64 × Array Sd) (idx o : Nat) (h : o = if (Go.Sort.xorNext st.1).toNat &&& (m - 1) ≥ l then ((Go.Sort.xorNext st.1).toNat &&& (m - 1)) - l else (Go.Sort.xorNext st.1).toNat &&& (m - 1)) : Go.Sort.breakStep a l m st idx = (Go.Sort.xorNext st.1, Go.Sort.swp st.2 idx (a + o)) := by
  subst h; rfl
theorem blen_pow {x : Nat} (h : 0 < x) : x < 2 ^ blen x ∧ 2 ^ blen x ≤ 2 * x := by
  unfold blen
  rw [if_neg (by omega)]
  have h1 := Nat.log2_self_le (n := x) (by omega)
  have h2 := Nat.lt_log2_self (n := x)
  rw [Nat.pow_succ] at *
  omega
theorem set_app_r (X : List Blk) (B B' : Blk) (n : Nat) (h : n = X.length) : (X ++ [B]).set n B' = X ++ [B'] := by
  subst h; rw [List.set_append_right _ _ (Nat.le_refl _)]; simp
theorem set_app_l (X Y : List Blk) (B' : Blk) (n : Nat) (h : n < X.length) : (X ++ Y).set n B' = X.set n B' ++ Y := List.set_append_left _ _ h
theorem s_break (lk : Nat) (H : Heap) (b : Nat) (d : Array Sd) (a e : Nat) (hae : a + 12 < e) (he : e ≤ d.size) (hn : d.size ≤ 100000) (hlk : lk ≤ b) (hd : AllS d) (hB : ilive H b = some ⟨cells d.toList, 4, false⟩) :
    ∃ r : Nat, gcall Tryz.prog md lk 279 [.slice (some ⟨b, 0, none⟩) d.size d.size, .int .i64 (a : Int), .int .i64 (e : Int), cmpF] H = some (.tuple #[], H.set b ⟨cells (Go.Sort.breakPatterns d a e).toList, 4, false⟩ ++ [⟨[.int .u64 (r : Int)], 1, false⟩]) := by
  have hbl := ilive_lt hB
  obtain ⟨l, hl⟩ : ∃ l, l = e - a := ⟨_, rfl⟩
  rw [brk_eq (by omega), ← hl]
  obtain ⟨m, hm⟩ : ∃ m, m = 2 ^ blen l := ⟨_, rfl⟩
  have hm2 := blen_pow (x := l) (by omega)
  rw [← hm] at hm2
  obtain ⟨x0, hx0⟩ : ∃ x0, x0 = a + l / 4 * 2 - 1 := ⟨_, rfl⟩
  rw [← hm, ← hx0]
  refine ⟨(brk a l m 3 x0 (UInt64.ofNat l, d)).1.toNat, ?_⟩
  refine gcall_raw (by decide) (by decide) (by decide) Tryz.func279 rfl ?_
  have hs0 : ∀ r r' : Nat, (H ++ [(⟨[.int .u64 (r : Int)], 1, false⟩ : Blk)]).set H.length ⟨[.int .u64 (r' : Int)], 1, false⟩ = H ++ [⟨[.int .u64 (r' : Int)], 1, false⟩] := fun r r' => by simp
  have hs1 : ∀ (C : Blk) (r r' : Nat), (H.set b C ++ [(⟨[.int .u64 (r : Int)], 1, false⟩ : Blk)]).set H.length ⟨[.int .u64 (r' : Int)], 1, false⟩ = H.set b C ++ [⟨[.int .u64 (r' : Int)], 1, false⟩] := fun C r r' => set_app_r (H.set b C) _ _ _ (by simp)
  have hs2 : ∀ C C' B : Blk, (H.set b C ++ [B]).set b C' = H.set b C' ++ [B] := fun C C' B => by
    have := set_app_l (H.set b C) [B] C' b (by simpa using hbl)
    rw [List.set_set] at this
    exact this
  have hl0 : ∀ r : Nat, ilive (H ++ [⟨[.int .u64 (r : Int)], 1, false⟩]) H.length = some ⟨[.int .u64 (r : Int)], 1, false⟩ := fun r => by unfold ilive; simp
  have hl1 : ∀ (C : Blk) (r : Nat), ilive (H.set b C ++ [⟨[.int .u64 (r : Int)], 1, false⟩]) H.length = some ⟨[.int .u64 (r : Int)], 1, false⟩ := fun C r => by
    unfold ilive
    rw [List.getElem?_append_right (by simp)]
    simp
  have hl2 : ∀ (c : List Value) (B : Blk), ilive (H.set b ⟨c, 4, false⟩ ++ [B]) b = some ⟨c, 4, false⟩ := fun c B => ilive_app (ilive_set_self hbl rfl)
  have e1 : IntKind.i64.wrap ((e : Int) - (a : Int)) = (l : Int) := by rw [w64 (by omega) (by omega)]; omega
  have e0 : IntKind.u64.wrap (l : Int) = (l : Int) := by rw [IntKind.wrap_u64]; omega
  have c8 : (8 ≤ (l : Int)) = True := eq_true (by omega)
  have e2 : IntKind.i64.wrap (Int.tdiv (l : Int) 4) = ((l / 4 : Nat) : Int) := by
    rw [show Int.tdiv (l : Int) 4 = ((l / 4 : Nat) : Int) from rfl, w64 (by omega) (by omega)]
  have e3 : IntKind.i64.wrap (((l / 4 : Nat) : Int) * 2) = ((l / 4 * 2 : Nat) : Int) := by rw [w64 (by omega) (by omega)]; omega
  have e4 : IntKind.i64.wrap ((a : Int) + ((l / 4 * 2 : Nat) : Int)) = ((a + l / 4 * 2 : Nat) : Int) := by rw [w64 (by omega) (by omega)]; omega
  have e5 : IntKind.i64.wrap (((a + l / 4 * 2 : Nat) : Int) - 1) = (x0 : Int) := by rw [w64 (by omega) (by omega)]; omega
  have e6 : IntKind.i64.wrap (((a + l / 4 * 2 : Nat) : Int) + 1) = ((x0 + 2 : Nat) : Int) := by rw [w64 (by omega) (by omega)]; omega
  have kp := fun lk H' => s_npow lk H' l (by omega)
  rw [← hm] at kp
  have hs00 := hs0 0 l
  have hl00 := hl0 0
  rw [Int.natCast_zero] at hs00 hl00
  simp -dsimp only [go_sem, e1, e0, c8, hl00, hs00, kp, e2, e3, e4, e5]
  refine ⟨by omega, ?_⟩
  refine r_loop (m := fun (s : Nat × Nat × UInt64 × Array Sd) => s.1) (I := fun s σ H' => s.1 ≤ 3 ∧ s.2.1 = x0 + (3 - s.1) ∧ s.2.2.2.size = d.size ∧ AllS s.2.2.2 ∧ brk a l m s.1 s.2.1 s.2.2 = brk a l m 3 x0 (UInt64.ofNat l, d) ∧ H' = H.set b ⟨cells s.2.2.2.toList, 4, false⟩ ++ [⟨[.int .u64 (s.2.2.1.toNat : Int)], 1, false⟩] ∧ σ 0 = .slice (some ⟨b, 0, none⟩) d.size d.size ∧ σ 1 = .int .i64 (a : Int) ∧ σ 8 = .int .i64 (l : Int) ∧ σ 9 = .pointer (some ⟨H.length, 0, none⟩) ∧ σ 10 = .int .u64 (m : Int) ∧ σ 11 = .int .i64 (s.2.1 : Int)) (3, x0, UInt64.ofNat l, d) ⟨Nat.le_refl _, rfl, rfl, hd, rfl, ?_, rfl, rfl, rfl, rfl, rfl, rfl⟩ ?_
  · simp only []
    rw [set_same hB, UInt64.toNat_ofNat', Nat.mod_eq_of_lt (by omega)]
  · rintro ⟨n, x, r, d1⟩ σ H' ⟨hn3, hx, z1, hd1, hI, rfl, g0, g1, g8, g9, g10, g11⟩
    simp only [] at hn3 hx z1 hd1 hI g11
    cases n with
    | zero =>
      have c1 : ((x : Int) ≤ ((x0 + 2 : Nat) : Int)) = False := eq_false (by omega)
      rw [show brk a l m 0 x (r, d1) = (r, d1) from rfl] at hI
      rw [← hI]
      simp -dsimp only [go_sem, g1, g8, g11, e2, e3, e4, e6, c1]
    | succ n =>
      have c1 : ((x : Int) ≤ ((x0 + 2 : Nat) : Int)) = True := eq_true (by omega)
      have kn := fun lk (hlk : lk ≤ H.length) => s_next lk _ H.length r hlk (hl1 ⟨cells d1.toList, 4, false⟩ r.toNat)
      rw [show brk a l m (n + 1) x (r, d1) = brk a l m n (x + 1) (Go.Sort.breakStep a l m (r, d1) x) from rfl] at hI
      have hxl := (Go.Sort.xorNext r).toNat_lt
      have ho := breakStep_eq a l m (r, d1) x _ rfl
      simp only [] at ho
      rw [ho] at hI
      generalize hr1 : Go.Sort.xorNext r = r1 at *
      have e7 : IntKind.u64.wrap ((m : Int) - 1) = ((m - 1 : Nat) : Int) := by rw [IntKind.wrap_u64]; omega
      have ea := and_u64 r1.toNat (m - 1) (by simpa using hxl) (by omega)
      have hle : r1.toNat &&& (m - 1) ≤ m - 1 := Nat.and_le_right
      generalize r1.toNat &&& (m - 1) = o at *
      have e8 : IntKind.i64.wrap (o : Int) = (o : Int) := by rw [w64 (by omega) (by omega)]
      have e12 : IntKind.i64.wrap ((x : Int) + 1) = ((x + 1 : Nat) : Int) := by rw [w64 (by omega) (by omega)]; omega
      have knn := kn lk (by omega)
      simp only [hs1] at knn
      by_cases hol : o ≥ l
      · have c2 : ((l : Int) ≤ (o : Int)) = True := eq_true (by omega)
        rw [if_pos hol] at hI
        have e9 : IntKind.i64.wrap ((o : Int) - (l : Int)) = ((o - l : Nat) : Int) := by rw [w64 (by omega) (by omega)]; omega
        have e10 : IntKind.i64.wrap ((a : Int) + ((o - l : Nat) : Int)) = ((a + (o - l) : Nat) : Int) := by rw [w64 (by omega) (by omega)]; omega
        have hx1 : x < d1.size := by omega
        have hy1 : a + (o - l) < d1.size := by omega
        have hx' : x < d.size := by omega
        have hy' : a + (o - l) < d.size := by omega
        have sx := sdg d1 _ hx1
        have sy := sdg d1 _ hy1
        have p1 := sdp1 d1 _ _ hx1 hy1
        have p2 := sdp2 d1 _ _ hx1 hy1
        have q1 := sdl d1
        have q2 := sdl2 d1 x d1[a + (o - l)]
        simp -dsimp only [go_sem, g0, g1, g8, g9, g10, g11, e2, e3, e4, e6, c1, knn, e7, ea, e8, c2, e9, e10, e12, hl2, hs2, sx, sy, hx', hy', p1, p2]
        exact ⟨⟨hlk, by omega⟩, ⟨hlk, by omega⟩, next (n, x + 1, r1, Go.Sort.swp d1 x (a + (o - l))) (by show n < n + 1; omega) ⟨by simp only []; omega, by simp only []; omega, by simp only []; rw [swp_size]; exact z1, hd1.swp hx1 hy1, hI, rfl, g0, g1, g8, g9, g10, rfl⟩⟩
      · have c2 : ((l : Int) ≤ (o : Int)) = False := eq_false (by omega)
        rw [if_neg hol] at hI
        have e10 : IntKind.i64.wrap ((a : Int) + (o : Int)) = ((a + o : Nat) : Int) := by rw [w64 (by omega) (by omega)]; omega
        have hx1 : x < d1.size := by omega
        have hy1 : a + o < d1.size := by omega
        have hx' : x < d.size := by omega
        have hy' : a + o < d.size := by omega
        have sx := sdg d1 _ hx1
        have sy := sdg d1 _ hy1
        have p1 := sdp1 d1 _ _ hx1 hy1
        have p2 := sdp2 d1 _ _ hx1 hy1
        have q1 := sdl d1
        have q2 := sdl2 d1 x d1[a + o]
        simp -dsimp only [go_sem, g0, g1, g8, g9, g10, g11, e2, e3, e4, e6, c1, knn, e7, ea, e8, c2, e10, e12, hl2, hs2, sx, sy, hx', hy', p1, p2]
        exact ⟨⟨hlk, by omega⟩, ⟨hlk, by omega⟩, next (n, x + 1, r1, Go.Sort.swp d1 x (a + o)) (by show n < n + 1; omega) ⟨by simp only []; omega, by simp only []; omega, by simp only []; rw [swp_size]; exact z1, hd1.swp hx1 hy1, hI, rfl, g0, g1, g8, g9, g10, rfl⟩⟩
end Gx
end
