/- Lemmas for the row: plain facts, or contracts of functions. -/
import Derived.Test.YtehnbdbhjeffaaaGreatGz2
import Derived.Test.YtehnbdbhjeffaaaGreatGz16
set_option linter.all false
section
/- Conductors and numbers of terms: the program's checks and the reference's. -/
set_option autoImplicit false
namespace Gx
open Go Go.Proofs
open Go.Proofs.Tryz (prog)
set_option maxRecDepth 10000
def pCk (p : Int) : Int := if p < 2 ∨ 23 < p then 3 else if Pr p.toNat then 0 else 7
def pCkB (p f : Int) : Int := if pCk p ≠ 0 then pCk p else if f < 1 ∨ (p - 1).tmod f ≠ 0 then 3 else 0
theorem q8z (lk : Nat) (H : Heap) (p : Int) : q0c prog md lk 56 [.int .i64 p] H = some (.int .i64 (pCk p), H) := by
 refine q0a rfl Tryz.func56 rfl rfl ?_
 unfold pCk
 by_cases h1 : p < 2
 ·rw [if_pos (.inl h1)]
  simp -dsimp only [go_sem, h1]
 ·by_cases h2 : 23 < p
  ·rw [if_pos (.inr h2)]
   simp -dsimp only [go_sem, h1, h2]
  ·rw [if_neg (by omega)]
   have hk := fun lk H' => p_resIsPrime lk H' p.toNat (by omega) (by omega)
   rw [show ((p.toNat : Nat) : Int) = p by omega] at hk
   by_cases h3 : Pr p.toNat
   ·rw [if_pos h3]
    rw [decide_eq_true h3] at hk
    simp -dsimp only [go_sem, h1, h2, hk]
   ·rw [if_neg h3]
    rw [decide_eq_false h3] at hk
    simp -dsimp only [go_sem, h1, h2, hk]
theorem r48_Prime (lk : Nat) (H : Heap) (p : Int) : q0c prog md lk 12 [.int .i64 p] H = some (.int .i64 (pCk p), H) := by
 refine q0a rfl Tryz.func12 rfl rfl ?_
 unfold pCk
 by_cases h1 : p < 2
 ·rw [if_pos (.inl h1)]
  simp -dsimp only [go_sem, h1]
 ·by_cases h2 : 23 < p
  ·rw [if_pos (.inr h2)]
   simp -dsimp only [go_sem, h1, h2]
  ·rw [if_neg (by omega)]
   have hk := fun lk H' => r4_IsPrime lk H' p.toNat (by omega)
   rw [show ((p.toNat : Nat) : Int) = p by omega] at hk
   by_cases h3 : Pr p.toNat
   ·rw [if_pos h3]
    rw [decide_eq_true h3] at hk
    simp -dsimp only [go_sem, h1, h2, hk]
   ·rw [if_neg h3]
    rw [decide_eq_false h3] at hk
    simp -dsimp only [go_sem, h1, h2, hk]
theorem pCk_zero {p : Int} (h : pCk p = 0) : 2 ≤ p ∧ p ≤ 23 ∧ Pr p.toNat := by
 unfold pCk at h
 by_cases h1 : p < 2 ∨ 23 < p
 ·rw [if_pos h1] at h; omega
 ·rw [if_neg h1] at h
  by_cases h2 : Pr p.toNat
  ·exact ⟨by omega, by omega, h2⟩
  ·rw [if_neg h2] at h; omega
theorem q4e (lk : Nat) (H : Heap) (p f : Int) : q0c prog md lk 46 [.int .i64 p, .int .i64 f] H = some (.int .i64 (pCkB p f), H) := by
 refine q0a rfl Tryz.func46 rfl rfl ?_
 have hk := fun lk H' => q8z lk H' p
 unfold pCkB
 by_cases h0 : pCk p = 0
 ·rw [if_neg (fun h => h h0)]
  rw [h0] at hk
  obtain ⟨h1, h2, _⟩ := pCk_zero h0
  by_cases h3 : f < 1
  ·rw [if_pos (.inl h3)]
   simp -dsimp only [go_sem, hk, h3]
  ·have w1 : IntKind.i64.wrap (p - 1) = p - 1 := by rw [IntKind.wrap_i64]; omega
   have hf0 : (f ≠ 0) = True := eq_true (by omega)
   by_cases h4 : (p - 1).tmod f = 0
   ·rw [if_neg (by rintro (h | h); exact h3 h; exact h h4)]
    simp -dsimp only [go_sem, hk, h3, w1, hf0, h4]
   ·rw [if_pos (.inr h4)]
    simp -dsimp only [go_sem, hk, h3, w1, hf0, h4]
 ·rw [if_pos h0]
  simp -dsimp only [go_sem, hk, h0]
theorem r48_Terms (lk : Nat) (H : Heap) (p f : Int) : q0c prog md lk 15 [.int .i64 p, .int .i64 f] H = some (.int .i64 (pCkB p f), H) := by
 refine q0a rfl Tryz.func15 rfl rfl ?_
 have hk := fun lk H' => r48_Prime lk H' p
 unfold pCkB
 by_cases h0 : pCk p = 0
 ·rw [if_neg (fun h => h h0)]
  rw [h0] at hk
  obtain ⟨h1, h2, _⟩ := pCk_zero h0
  by_cases h3 : f < 1
  ·rw [if_pos (.inl h3)]
   simp -dsimp only [go_sem, hk, h3]
  ·have w1 : IntKind.i64.wrap (p - 1) = p - 1 := by rw [IntKind.wrap_i64]; omega
   have hf0 : (f ≠ 0) = True := eq_true (by omega)
   by_cases h4 : (p - 1).tmod f = 0
   ·rw [if_neg (by rintro (h | h); exact h3 h; exact h h4)]
    simp -dsimp only [go_sem, hk, h3, w1, hf0, h4]
   ·rw [if_pos (.inr h4)]
    simp -dsimp only [go_sem, hk, h3, w1, hf0, h4]
 ·rw [if_pos h0]
  simp -dsimp only [go_sem, hk, h0]
theorem tmod_emod (a m : Int) : (a.tmod m) % m = a % m := by
 have h := Int.mul_tdiv_add_tmod a m
 have : a % m = (m * (a.tdiv m) + a.tmod m) % m := by rw [h]
 rw [this, Int.mul_add_emod_self_left]
theorem q6w (a : Int) {m : Int} (hm : 0 < m) : -m < a.tmod m ∧ a.tmod m < m := by
 have h1 := Int.tmod_lt_of_pos a hm
 have h2 := Int.tmod_lt_of_pos (-a) hm
 rw [Int.neg_tmod] at h2
 omega
theorem mod_twice (a : Int) {m : Int} (hm : 0 < m) : (a.tmod m + m).tmod m = a % m := by
 obtain ⟨h1, h2⟩ := q6w a hm
 rw [Int.tmod_eq_emod_of_nonneg (by omega), Int.add_emod_right, tmod_emod]
theorem wI64 {n : Int} (h1 : -9223372036854775808 ≤ n) (h2 : n ≤ 9223372036854775807) : IntKind.i64.wrap n = n := by rw [IntKind.wrap_i64]; omega
theorem r4_Mod (lk : Nat) (H : Heap) (a : Int) (m : Int) (hm : 0 < m) (hm2 : m ≤ 100000) : q0c prog md lk 86 [.int .i64 a, .int .i64 m] H = some (.int .i64 (a % m), H) := by
 refine q0a rfl Tryz.func86 rfl rfl ?_
 obtain ⟨h1, h2⟩ := q6w a hm
 have w := wI64 (n := a.tmod m + m) (by omega) (by omega)
 have h0 : (m ≠ 0) = True := eq_true (by omega)
 simp -dsimp only [go_sem, h0, w, mod_twice a hm]
theorem p_resMod (lk : Nat) (H : Heap) (a : Int) (m : Int) (hm : 0 < m) (hm2 : m ≤ 100000) : q0c prog md lk 215 [.int .i64 a, .int .i64 m] H = some (.int .i64 (a % m), H) := by
 refine q0a rfl Tryz.func215 rfl rfl ?_
 obtain ⟨h1, h2⟩ := q6w a hm
 have h0 : (m ≠ 0) = True := eq_true (by omega)
 have e := tmod_emod a m
 by_cases hn : a.tmod m < 0
 ·have w := wI64 (n := a.tmod m + m) (by omega) (by omega)
  have e2 : a.tmod m + m = a % m := by
   rw [← e, ← Int.add_emod_right, Int.emod_eq_of_lt (by omega) (by omega)]
  rw [e2] at w
  simp -dsimp only [go_sem, h0, hn, w, e2]
 ·have e2 : a.tmod m = a % m := by
   rw [← e, Int.emod_eq_of_lt (by omega) h2]
  rw [e2] at hn
  simp -dsimp only [go_sem, h0, e2, hn]
def pwm (m : Int) (out x : Int) (k : Nat) : Int := if h : k = 0 then out else pwm m (if k % 2 = 1 then (out * x).tmod m else out) ((x * x).tmod m) (k / 2)
termination_by k
decreasing_by omega
theorem pwm_zero (m out x : Int) : pwm m out x 0 = out := by unfold pwm; rfl
theorem pwm_pos (m out x : Int) {k : Nat} (h : k ≠ 0) : pwm m out x k = pwm m (if k % 2 = 1 then (out * x).tmod m else out) ((x * x).tmod m) (k / 2) := by
 rw [pwm, dif_neg h]
theorem w4i {m x y : Int} (hm : 0 < m) (hm2 : m ≤ 100000) (hx : 0 ≤ x) (hx2 : x < m) (hy : 0 ≤ y) (hy2 : y < m) : IntKind.i64.wrap (x * y) = x * y ∧ 0 ≤ (x * y).tmod m ∧ (x * y).tmod m < m := by
 have h1 : 0 ≤ x * y := Int.mul_nonneg hx hy
 have h2 : x * y ≤ 100000 * 100000 := Int.mul_le_mul (by omega) (by omega) hy (by omega)
 exact ⟨wI64 (by omega) (by omega), by rw [Int.tmod_eq_emod_of_nonneg h1]; exact Int.emod_nonneg _ (by omega), Int.tmod_lt_of_pos _ hm⟩
theorem r4_Pow (lk : Nat) (H : Heap) (a m : Int) (k : Nat) (hk : k ≤ 9223372036854775807) (hm : 0 < m) (hm2 : m ≤ 100000) : q0c prog md lk 85 [.int .i64 a, .int .i64 (k : Int), .int .i64 m] H = some (.int .i64 (pwm m ((1 : Int).tmod m) (a % m) k), H) := by
 refine q0a rfl Tryz.func85 rfl rfl ?_
 have h0 : (m ≠ 0) = True := eq_true (by omega)
 have hmod := fun lk H' => r4_Mod lk H' a m hm hm2
 have ho1 : 0 ≤ (1 : Int).tmod m ∧ (1 : Int).tmod m < m := ⟨by rw [Int.tmod_eq_emod_of_nonneg (by omega)]; exact Int.emod_nonneg _ (by omega), Int.tmod_lt_of_pos _ hm⟩
 have hx1 : 0 ≤ a % m ∧ a % m < m := ⟨Int.emod_nonneg _ (by omega), Int.emod_lt_of_pos _ hm⟩
 simp -dsimp only [go_sem, h0, hmod]
 refine q0h (m := fun (s : Nat × Int × Int) => s.1) (I := fun s σ H' => s.1 ≤ k ∧ 0 ≤ s.2.1 ∧ s.2.1 < m ∧ 0 ≤ s.2.2 ∧ s.2.2 < m ∧ pwm m s.2.1 s.2.2 s.1 = pwm m ((1 : Int).tmod m) (a % m) k ∧ σ 0 = .int .i64 s.2.2 ∧ σ 1 = .int .i64 (s.1 : Int) ∧ σ 2 = .int .i64 m ∧ σ 7 = .int .i64 s.2.1) (k, (1 : Int).tmod m, a % m) ⟨Nat.le_refl _, ho1.1, ho1.2, hx1.1, hx1.2, rfl, rfl, rfl, rfl, rfl⟩ ?_
 rintro ⟨j, out, x⟩ σ H' ⟨hj, hb1, hb2, hb3, hb4, he, s0, s1, s2, s7⟩
 simp only at hj hb1 hb2 hb3 hb4 he s0 s1 s2 s7
 by_cases hz : j = 0
 ·subst hz
  rw [pwm_zero] at he
  simp -dsimp only [go_sem, s0, s1, s2, s7, he]
 ·have hp : (0 : Int) < (j : Int) := by omega
  obtain ⟨w1, w2, w3⟩ := w4i hm hm2 hb1 hb2 hb3 hb4
  obtain ⟨v1, v2, v3⟩ := w4i hm hm2 hb3 hb4 hb3 hb4
  have e2 : ((j : Int)).tmod 2 = ((j % 2 : Nat) : Int) := by rw [Int.tmod_eq_emod_of_nonneg (by omega)]; omega
  have e3 : ((j : Int)).tdiv 2 = ((j / 2 : Nat) : Int) := by rw [Int.tdiv_eq_ediv_of_nonneg (by omega)]; omega
  have w4 := wI64 (n := ((j / 2 : Nat) : Int)) (by omega) (by omega)
  rw [pwm_pos _ _ _ hz] at he
  by_cases ho : j % 2 = 1
  ·rw [if_pos ho] at he
   have e4 : ((j : Int)).tmod 2 = 1 := by rw [e2, ho]; rfl
   simp -dsimp only [go_sem, s0, s1, s2, s7, hp, h0, w1, v1, e3, e4, w4]
   exact ⟨(j / 2, (out * x).tmod m, (x * x).tmod m), by simp only; omega, by simp only; omega, w2, w3, v2, v3, he, rfl, rfl, s2, rfl⟩
  ·rw [if_neg ho] at he
   have e4 : ((j : Int)).tmod 2 = 0 := by rw [e2]; omega
   simp -dsimp only [go_sem, s0, s1, s2, s7, hp, h0, w1, v1, e3, e4, w4]
   exact ⟨(j / 2, out, (x * x).tmod m), by simp only; omega, by simp only; omega, hb1, hb2, v2, v3, he, rfl, rfl, s2, s7⟩
theorem and_one {k : Nat} (hk : k ≤ 9223372036854775807) : q6t .and .i64 (k : Int) 1 = some (.int .i64 ((k % 2 : Nat) : Int)) := by
 have h : (BitVec.ofInt IntKind.i64.bits (k : Int) &&& BitVec.ofInt IntKind.i64.bits 1).toNat = k % 2 := by
  rw [BitVec.toNat_and]
  have e1 : (BitVec.ofInt IntKind.i64.bits (k : Int)).toNat = k := by
   rw [BitVec.toNat_ofInt]
   show ((k : Int) % ((2 ^ 64 : Nat) : Int)).toNat = k
   omega
  have e2 : (BitVec.ofInt IntKind.i64.bits 1).toNat = 1 := rfl
  rw [e1, e2, Nat.and_one_is_mod]
 simp only [q6t]
 rw [h, wI64 (by omega) (by omega)]
theorem p_power (lk : Nat) (H : Heap) (a m : Int) (k : Nat) (hk : k ≤ 9223372036854775807) (hm : 0 < m) (hm2 : m ≤ 100000) : q0c prog md lk 166 [.int .i64 a, .int .i64 (k : Int), .int .i64 m] H = some (.int .i64 (pwm m ((1 : Int).tmod m) (a % m) k), H) := by
 refine q0a rfl Tryz.func166 rfl rfl ?_
 have h0 : (m ≠ 0) = True := eq_true (by omega)
 have hmod := fun lk H' => p_resMod lk H' a m hm hm2
 have ho1 : 0 ≤ (1 : Int).tmod m ∧ (1 : Int).tmod m < m := ⟨by rw [Int.tmod_eq_emod_of_nonneg (by omega)]; exact Int.emod_nonneg _ (by omega), Int.tmod_lt_of_pos _ hm⟩
 have hx1 : 0 ≤ a % m ∧ a % m < m := ⟨Int.emod_nonneg _ (by omega), Int.emod_lt_of_pos _ hm⟩
 simp -dsimp only [go_sem, h0, hmod]
 refine q0h (m := fun (s : Nat × Int × Int) => s.1) (I := fun s σ H' => s.1 ≤ k ∧ 0 ≤ s.2.1 ∧ s.2.1 < m ∧ 0 ≤ s.2.2 ∧ s.2.2 < m ∧ pwm m s.2.1 s.2.2 s.1 = pwm m ((1 : Int).tmod m) (a % m) k ∧ σ 0 = .int .i64 s.2.2 ∧ σ 1 = .int .i64 (s.1 : Int) ∧ σ 2 = .int .i64 m ∧ σ 7 = .int .i64 s.2.1) (k, (1 : Int).tmod m, a % m) ⟨Nat.le_refl _, ho1.1, ho1.2, hx1.1, hx1.2, rfl, rfl, rfl, rfl, rfl⟩ ?_
 rintro ⟨j, out, x⟩ σ H' ⟨hj, hb1, hb2, hb3, hb4, he, s0, s1, s2, s7⟩
 simp only at hj hb1 hb2 hb3 hb4 he s0 s1 s2 s7
 by_cases hz : j = 0
 ·subst hz
  rw [pwm_zero] at he
  simp -dsimp only [go_sem, s0, s1, s2, s7, he]
 ·have hp : (0 : Int) < (j : Int) := by omega
  obtain ⟨w1, w2, w3⟩ := w4i hm hm2 hb1 hb2 hb3 hb4
  obtain ⟨v1, v2, v3⟩ := w4i hm hm2 hb3 hb4 hb3 hb4
  have e1 := and_one (k := j) (by omega)
  have e3 : ((j : Int)).fdiv 2 = ((j / 2 : Nat) : Int) := by rw [Int.fdiv_eq_ediv_of_nonneg _ (by omega)]; omega
  rw [pwm_pos _ _ _ hz] at he
  by_cases ho : j % 2 = 1
  ·rw [if_pos ho] at he
   rw [ho] at e1
   simp -dsimp only [go_sem, s0, s1, s2, s7, hp, h0, w1, v1, e3, e1]
   exact ⟨(j / 2, (out * x).tmod m, (x * x).tmod m), by simp only; omega, by simp only; omega, w2, w3, v2, v3, he, rfl, rfl, s2, rfl⟩
  ·rw [if_neg ho] at he
   rw [show j % 2 = 0 by omega] at e1
   simp -dsimp only [go_sem, s0, s1, s2, s7, hp, h0, w1, v1, e3, e1]
   exact ⟨(j / 2, out, (x * x).tmod m), by simp only; omega, by simp only; omega, hb1, hb2, v2, v3, he, rfl, rfl, s2, s7⟩
theorem p_resPow (lk : Nat) (H : Heap) (a m : Int) (k : Nat) (hk : k ≤ 9223372036854775807) (hm : 0 < m) (hm2 : m ≤ 100000) : q0c prog md lk 137 [.int .i64 a, .int .i64 (k : Int), .int .i64 m] H = some (.tuple #[.int .i64 (pwm m ((1 : Int).tmod m) (a % m) k), .int .i64 0], H) := by
 refine q0a rfl Tryz.func137 rfl rfl ?_
 have k1 := fun lk => p_bad lk (H ++ [⟨[.int .i64 m], 1, false⟩]) m H.length (q0j _ _)
 have hc : ¬ (m < 1 ∨ 2147483647 < m) := by omega
 rw [decide_eq_false hc] at k1
 have k2 := fun lk H' => p_power lk H' a m k hk hm hm2
 have hn : ((k : Int) < 0) = False := eq_false (by omega)
 simp -dsimp only [go_sem, reps, k1, k2, hn]
def q7n (p : Int) (f h : Nat) : Bool := decide (1 ≤ h ∧ (h : Int) < p ∧ pwm p ((1 : Int).tmod p) ((h : Int) % p) f = 1)
def q3s (p : Int) (f i : Nat) : List Value := (List.range 24).map fun h => .bool (decide (h < i) && q7n p f h)
theorem q7s (p : Int) (f i : Nat) : (q3s p f i).length = 24 := by simp [q3s]
theorem subTo_put (p : Int) (f : Nat) : ∀ (i : Nat), i < 24 → iput (q3s p f i) i [.bool (q7n p f i)] = q3s p f (i + 1)
 | 0, _ => rfl
 | 1, _ => rfl
 | 2, _ => rfl
 | 3, _ => rfl
 | 4, _ => rfl
 | 5, _ => rfl
 | 6, _ => rfl
 | 7, _ => rfl
 | 8, _ => rfl
 | 9, _ => rfl
 | 10, _ => rfl
 | 11, _ => rfl
 | 12, _ => rfl
 | 13, _ => rfl
 | 14, _ => rfl
 | 15, _ => rfl
 | 16, _ => rfl
 | 17, _ => rfl
 | 18, _ => rfl
 | 19, _ => rfl
 | 20, _ => rfl
 | 21, _ => rfl
 | 22, _ => rfl
 | 23, _ => rfl
 | n + 24, h => by omega
theorem subTo_end (p : Int) (f i : Nat) (h : (i : Int) = p) : q3s p f i = q3s p f 24 := by
 unfold q3s
 refine List.map_congr_left fun h' hh => ?_
 have h24 : h' < 24 := List.mem_range.1 hh
 rw [decide_eq_true h24, Bool.true_and]
 by_cases hi : h' < i
 ·rw [decide_eq_true hi, Bool.true_and]
 ·rw [decide_eq_false hi, Bool.false_and]
  unfold q7n
  rw [decide_eq_false (by omega)]
theorem p_subgroup (lk : Nat) (H : Heap) (p : Int) (f : Nat) (hp : 2 ≤ p) (hp2 : p ≤ 23) (hf : f ≤ 9223372036854775807) : q0c prog md lk 83 [.int .i64 p, .int .i64 (f : Int)] H = some (.agg (q3s p f 24).toArray, H) := by
 refine q0a rfl Tryz.func83 rfl (by unfold q3s; rfl) ?_
 simp -dsimp only [go_sem]
 obtain ⟨z, hz⟩ : ∃ z : List Value, z = [.bool false, .bool false, .bool false, .bool false, .bool false, .bool false, .bool false, .bool false, .bool false, .bool false, .bool false, .bool false, .bool false, .bool false, .bool false, .bool false, .bool false, .bool false, .bool false, .bool false, .bool false, .bool false, .bool false, .bool false] := ⟨_, rfl⟩
 have hz1 : z = q3s p f 1 := by rw [hz]; rfl
 have hzl : z.length = 24 := by rw [hz]; rfl
 rw [← hz]
 refine q0h (m := fun (i : Nat) => 24 - i) (I := fun i σ H' => 1 ≤ i ∧ (i : Int) ≤ p ∧ H' = H ++ [⟨z, 1, false⟩, ⟨q3s p f i, 1, false⟩] ∧ σ 0 = .int .i64 p ∧ σ 1 = .int .i64 (f : Int) ∧ σ 4 = .pointer (some ⟨H.length, 0, none⟩) ∧ σ 5 = .pointer (some ⟨H.length + 1, 0, none⟩) ∧ σ 6 = .int .i64 (i : Int)) 1 ⟨Nat.le_refl _, by omega, by rw [← hz1], rfl, rfl, rfl, rfl, rfl⟩ ?_
 rintro i σ H' ⟨h1, h2, rfl, s0, s1, s4, s5, s6⟩
 have hpow := fun lk H' => p_resPow lk H' (i : Int) p f hf (by omega) (by omega)
 by_cases hi : (i : Int) < p
 ·have w := wI64 (n := (i : Int) + 1) (by omega) (by omega)
  have hi24 : ((i : Int) < 24) = True := eq_true (by omega)
  have hi0 : (0 ≤ (i : Int)) = True := eq_true (by omega)
  have e1 : ((i : Int)).toNat = i := by omega
  have hl := q7s p f i
  simp -dsimp only [go_sem, s0, s1, s4, s5, s6, hi, hpow, w, hi24, hi0, e1, hl]
  have hsub : decide (pwm p ((1 : Int).tmod p) ((i : Int) % p) f = 1) = q7n p f i := by
   unfold q7n
   exact decide_eq_decide.2 ⟨fun h => ⟨h1, hi, h⟩, fun h => h.2.2⟩
  refine ⟨by omega, by omega, i + 1, by simp only; omega, by omega, by omega, ?_, s0, s1, s4, s5, rfl⟩
  rw [hsub, subTo_put p f i (by omega)]
 ·have hip : (i : Int) = p := by omega
  have hl := q7s p f i
  simp -dsimp only [go_sem, s0, s1, s4, s5, s6, hi, hl, hzl]
  have e1 : iput z 0 (q3s p f i) = q3s p f i := by
   unfold iput
   rw [hl, List.take_zero, List.nil_append, List.drop_of_length_le (by omega), List.append_nil]
  have e2 : isub (q3s p f i) 0 24 = some (q3s p f i) := by
   unfold isub
   rw [if_pos (by omega), List.drop_zero, List.take_of_length_le (by omega)]
  rw [e1, e2, subTo_end p f i hip]
  rfl
def hitP (p : Int) (f : Nat) (a b : Int) (h : Nat) : Bool := q7n p f h && decide ((a * (h : Int)).tmod p = b)
def cntP (p : Int) (f : Nat) (a b : Int) : Nat → Nat
 | 0 => 0
 | i + 1 => cntP p f a b i + if hitP p f a b i = true then 1 else 0
theorem cntP_le (p : Int) (f : Nat) (a b : Int) : ∀ i, cntP p f a b i ≤ i
 | 0 => Nat.le_refl _
 | i + 1 => by
  have := cntP_le p f a b i
  unfold cntP
  split <;> omega
theorem subTo_get (p : Int) (f i : Nat) (hi : i < 24) : (q3s p f 24)[i]? = some (.bool (q7n p f i)) := by
 unfold q3s
 rw [List.getElem?_map, List.getElem?_range hi]
 simp [hi]
theorem p_times (lk : Nat) (H : Heap) (p : Int) (f : Nat) (a b : Int) (A B C : Nat) (hp : 2 ≤ p) (hp2 : p ≤ 23) (ha : 0 ≤ a) (ha2 : a < p) (hA : q0e H A = some ⟨q3s p f 24, 1, false⟩) (hB : q0e H B = some ⟨[.int .i64 a], 1, false⟩) (hC : q0e H C = some ⟨[.int .i64 p], 1, false⟩) :
  q0c prog md lk 138 [.int .i64 b, .pointer (some ⟨A, 0, none⟩), .pointer (some ⟨B, 0, none⟩), .pointer (some ⟨C, 0, none⟩)] H = some (.int .i64 (cntP p f a b 24 : Int), H) := by
 refine q0a rfl Tryz.func138 rfl rfl ?_
 have hl := q7s p f 24
 have e2 : isub (q3s p f 24) 0 24 = some (q3s p f 24) := by
  unfold isub
  rw [if_pos (by omega), List.drop_zero, List.take_of_length_le (by omega)]
 simp -dsimp only [go_sem, hA, e2]
 refine q0h (m := fun (i : Nat) => 24 - i) (I := fun i σ H' => i ≤ 24 ∧ H' = H ∧ σ 0 = .int .i64 b ∧ σ 1 = .pointer (some ⟨A, 0, none⟩) ∧ σ 2 = .pointer (some ⟨B, 0, none⟩) ∧ σ 3 = .pointer (some ⟨C, 0, none⟩) ∧ σ 6 = .int .i64 (cntP p f a b i : Int) ∧ σ 9 = .agg (q3s p f 24).toArray ∧ σ 10 = .int .i64 (i : Int)) 0 ⟨by omega, rfl, rfl, rfl, rfl, rfl, rfl, rfl, rfl⟩ ?_
 rintro i σ H' ⟨h1, rfl, s0, s1, s2, s3, s6, s9, s10⟩
 have hc := cntP_le p f a b i
 have h0 : (p ≠ 0) = True := eq_true (by omega)
 by_cases hi : (i : Int) < 24
 ·have hg := subTo_get p f i (by omega)
  have hi24 : ((i : Int) < 24) = True := eq_true hi
  have hi0 : (0 ≤ (i : Int)) = True := eq_true (by omega)
  have e1 : ((i : Int)).toNat = i := by omega
  have w := wI64 (n := (i : Int) + 1) (by omega) (by omega)
  have w2 := wI64 (n := (cntP p f a b i : Int) + 1) (by omega) (by omega)
  have w3 : IntKind.i64.wrap (a * (i : Int)) = a * (i : Int) := by
   have q1 : 0 ≤ a * (i : Int) := Int.mul_nonneg ha (by omega)
   have q2 : a * (i : Int) ≤ 23 * 24 := Int.mul_le_mul (by omega) (by omega) (by omega) (by omega)
   exact wI64 (by omega) (by omega)
  cases hs : q7n p f i with
  | false =>
   rw [hs] at hg
   have hh : cntP p f a b (i + 1) = cntP p f a b i := by simp [cntP, hitP, hs]
   simp -dsimp only [go_sem, s0, s1, s2, s3, s6, s9, s10, hi24, hi0, e1, hg, w, hB, hC, h0]
   exact ⟨by omega, i + 1, by simp only; omega, by omega, rfl, s0, s1, s2, s3, by rw [hh]; exact s6, s9, rfl⟩
  | true =>
   rw [hs] at hg
   by_cases ht : (a * (i : Int)).tmod p = b
   ·have hh : cntP p f a b (i + 1) = cntP p f a b i + 1 := by simp [cntP, hitP, hs, ht]
    simp -dsimp only [go_sem, s0, s1, s2, s3, s6, s9, s10, hi24, hi0, e1, hg, w, w2, w3, hB, hC, h0, ht]
    exact ⟨by omega, i + 1, by simp only; omega, by omega, rfl, s0, s1, s2, s3, by rw [hh]; rfl, s9, rfl⟩
   ·have hh : cntP p f a b (i + 1) = cntP p f a b i := by simp [cntP, hitP, hs, ht]
    simp -dsimp only [go_sem, s0, s1, s2, s3, s6, s9, s10, hi24, hi0, e1, hg, w, w2, w3, hB, hC, h0, ht]
    exact ⟨by omega, i + 1, by simp only; omega, by omega, rfl, s0, s1, s2, s3, by rw [hh]; exact s6, s9, rfl⟩
 ·have : i = 24 := by omega
  subst this
  have h24 : (((24 : Nat) : Int) < 24) = False := eq_false (by omega)
  simp -dsimp only [go_sem, h24, s0, s1, s2, s3, s6, s9, s10]
theorem c_Whole (lk : Nat) (H : Heap) (x : Int) : q0c prog md lk 151 [vI x] H = some (vR (x : Rat), H) := by
 refine q0a rfl Tryz.func151 rfl rfl ?_
 have one : [1] = q0b 1 := bytes_one.symm
 simp -dsimp only [go_sem, one]
 exact vR_mk _ _ _ rfl rfl
theorem c_Int (lk : Nat) (H : Heap) (x : Int) (hx : I64 x) : q0c prog md lk 97 [.int .i64 x] H = some (vR (x : Rat), H) := by
 refine q0a rfl Tryz.func97 rfl rfl ?_
 have k1 := fun lk H' => c_IntOf lk H' x hx
 have k2 := fun lk H' => c_Whole lk H' x
 simp -dsimp only [go_sem, k1, k2]
theorem q7g (lk : Nat) (H : Heap) (q : Rat) : q0c prog md lk 103 [vR q] H = some (.bool (decide (q = 0)), H) := by
 refine q0a rfl Tryz.func103 rfl rfl ?_
 have hb : (q0b q.num.natAbs = []) = (q = 0) := by
  rw [q1b]
  exact propext ⟨fun h => Rat.num_eq_zero.1 (by omega), fun h => by rw [h]; rfl⟩
 simp -dsimp only [go_sem, hb]
instance : Enc Rat := ⟨fun q => [.bool (decide (q.num < 0)), .string (mkS (q0b q.num.natAbs)), .string (mkS (q0b q.den))], 3, fun _ => rfl⟩
theorem SL.rat {H : Heap} {a : Option Addr} {f : List Rat} (h : SL H a f) (i : Nat) (hi : i < f.length) : ∃ b o B, a = some ⟨b, o, none⟩ ∧ q0e H b = some B ∧ B.sz = 3 ∧ isub B.c (o + i * 3) 3 = some [.bool (decide (f[i].num < 0)), .string (mkS (q0b f[i].num.natAbs)), .string (mkS (q0b f[i].den))] := h.get i hi
def q2m (f : List Rat) : Nat → Nat
 | 0 => 0
 | k + 1 => if f.getD k 0 = 0 then q2m f k else k + 1
theorem q6v (f : List Rat) (k : Nat) : q2m f k ≤ k := by
 induction k with
 | zero => exact Nat.le_refl _
 | succ k ih => unfold q2m; split <;> omega
theorem cut_rat {H : Heap} {a : Option Addr} {f : List Rat} (hs : SL H a f) {k : Nat} (hk : k ≤ f.length) : q4w prog H 22 (.slice a f.length f.length) none (some (.int .i64 (k : Int))) (some (.int .i64 (k : Int))) = some (.slice a k k) := by
 rcases hs with ⟨rfl, rfl⟩ | ⟨b, o, B, rfl, h2, h3, _⟩
 ·have : k = 0 := by simpa using hk
  subst this
  simp [q4w, q2l, go_sem]
 ·have h4 := q2y h2
  have h5 : B.sz = 3 := h3
  simp [q4w, q2l, go_sem, h4, h5, hk]
theorem p_PTrim (lk : Nat) (H : Heap) (a : Option Addr) (f : List Rat) (n : Nat) (hn : n = f.length) (hl : n ≤ 9223372036854775807) (hs : SL H a f) :
  q0c prog md lk 98 [.slice a n n] H = some (.slice a (q2m f n) (q2m f n), H) := by
 subst hn
 have e : H = H ++ [] := (List.append_nil H).symm
 conv => rhs; rw [e]
 refine q4x rfl Tryz.func98 rfl ?_
 have hfin : q4i H H.length (.slice a (q2m f f.length) (q2m f f.length)) = some (.slice a (q2m f f.length) (q2m f f.length), []) := by
  rcases hs with ⟨rfl, rfl⟩ | ⟨b, o, B, rfl, h2, _⟩
  ·rfl
  ·simp [q4i, w1w, q2f, q0w h2]
 simp -dsimp only [go_sem]
 refine q0h (m := id) (I := fun k σ H' => k ≤ f.length ∧ q2m f k = q2m f f.length ∧ H = H' ∧ σ 0 = .slice a f.length f.length ∧ σ 3 = .int .i64 (k : Int)) f.length ⟨Nat.le_refl _, rfl, rfl, rfl, rfl⟩ ?_
 rintro k σ H' ⟨h1, h2, rfl, h0, h3⟩
 by_cases hk : k = 0
 ·subst hk
  have hc := cut_rat hs (Nat.zero_le _)
  rw [show ((0 : Nat) : Int) = 0 from rfl] at hc
  simp -dsimp only [go_sem, h0, h3, Int.lt_irrefl, hc]
  rw [show (q2m f 0) = 0 from rfl] at h2
  rw [← h2] at hfin ⊢
  exact hfin
 ·obtain ⟨j, rfl⟩ : ∃ j, k = j + 1 := ⟨k - 1, by omega⟩
  have hj : j < f.length := by omega
  obtain ⟨b, o, B, rfl, hB, hz, hg⟩ := hs.rat j hj
  have e1 : IntKind.i64.wrap (((j + 1 : Nat) : Int) - 1) = (j : Int) := by rw [w64 (by omega) (by omega)]; omega
  have hp : (0 < ((j + 1 : Nat) : Int)) = True := by simp
  have hB2 := q2y hB
  have e3 : q2m f (j + 1) = if f[j] = 0 then q2m f j else j + 1 := by simp [q2m, List.getD, hj]
  have kz := fun lk H' => q7g lk H' f[j]
  by_cases hz0 : f[j] = 0
  ·rw [if_pos hz0] at e3
   rw [decide_eq_true hz0] at kz
   simp -dsimp only [go_sem, h0, h3, hp, e1, hB, hB2, hz, hg, kz, hj]
   exact next j (by show j < j + 1; omega) ⟨by omega, by rw [← e3, h2], rfl, h0, rfl⟩
  ·rw [if_neg hz0] at e3
   rw [decide_eq_false hz0] at kz
   have hc := cut_rat hs h1
   simp -dsimp only [go_sem, h0, h3, hp, e1, hB, hB2, hz, hg, kz, hj, hc]
   rw [← h2, e3] at hfin ⊢
   exact hfin
def difL (T : Nat → Int) (last : Int) (n : Nat) : List Rat := (List.range n).map fun b => ((T b - last : Int) : Rat)
theorem q3h (T : Nat → Int) (last : Int) (n : Nat) : (difL T last n).length = n := by simp [difL]
theorem difL_succ (T : Nat → Int) (last : Int) (n : Nat) : difL T last (n + 1) = difL T last n ++ [((T n - last : Int) : Rat)] := by simp [difL, List.range_succ]
theorem compV_take {H H' : Heap} {a : Option Addr} {l : List Rat} {k n : Nat} (h : Own H.length H' a l) (hk : k ≤ n) (hn : l.length = n) (hkok : (q0g l).all kok0 = true) :
  ∃ v N, q4i H' H.length (.slice a k k) = some (v, N) ∧ ∃ a', v = .slice a' k k ∧ SL (H ++ N) a' (l.take k) := by
 rcases h with ⟨rfl, rfl⟩ | ⟨b, rfl, h2, h3⟩
 ·have : k = 0 := by simp at hn; omega
  subst this
  exact ⟨_, _, rfl, none, rfl, .inl ⟨rfl, rfl⟩⟩
 ·have hkl : (l.take k).length = k := by rw [List.length_take]; omega
  have hcl : (q0g l).length = l.length * 3 := q1l l
  have hct : (q0g l).take (k * 3) = q0g (l.take k) := q9j l k
  refine ⟨.slice (some ⟨H.length, 0, none⟩) k k, [⟨q0g (l.take k), 3, false⟩], ?_, some ⟨H.length, 0, none⟩, rfl, .inr ⟨H.length, 0, _, rfl, q0j _ _, rfl, ?_, ?_⟩⟩
  ·have hall : ((q0g l).take (k * 3)).all kok0 = true := by
    rw [List.all_eq_true] at hkok ⊢
    exact fun x hx => hkok x (List.mem_of_mem_take hx)
   have h4 : q0e H' b = some ⟨q0g l, 3, false⟩ := h3
   rw [hct] at hall
   simp only [q4i, w1w, q2f, if_neg (Nat.not_lt.2 h2), h4, List.drop_zero, hct, hall]
   rw [if_pos (by refine ⟨trivial, by rw [hcl, hn]; omega, by simp, by simp⟩)]
   rfl
  ·show ((q0g (l.take k)).drop 0).take ((l.take k).length * 3) = q0g (l.take k)
   rw [List.drop_zero, List.take_of_length_le]
   rw [q1l]; exact Nat.le_refl _
  ·show 0 + (l.take k).length * 3 ≤ (q0g (l.take k)).length
   rw [q1l, Nat.zero_add]; exact Nat.le_refl _
theorem p_sum (lk : Nat) (H : Heap) (p : Nat) (g : FuncId) (cap : List Value) (T : Nat → Int) (hp : 2 ≤ p) (hp2 : p ≤ 23) (hT : ∀ b, b < p → 0 ≤ T b ∧ T b ≤ 1000)
  (hg : ∀ (lk : Nat) (H' : Heap) (b : Nat), Ext H H' → b < p → q0c prog md lk g (.int .i64 (b : Int) :: cap) H' = some (.int .i64 (T b), H')) :
  ∃ v N, q0c prog md lk 57 [.int .i64 (p : Int), .func (.func g) #[] cap.toArray] H = some (v, H ++ N) ∧ ∃ a, v = .slice a (q2m (difL T (T (p - 1)) (p - 1)) (p - 1)) (q2m (difL T (T (p - 1)) (p - 1)) (p - 1)) ∧ SL (H ++ N) a ((difL T (T (p - 1)) (p - 1)).take (q2m (difL T (T (p - 1)) (p - 1)) (p - 1))) := by
 refine q3m rfl Tryz.func57 rfl ?_
 have hl := fun lk => hg lk H (p - 1) (Ext.refl _) (by omega)
 have e1 : IntKind.i64.wrap ((p : Int) - 1) = ((p - 1 : Nat) : Int) := by rw [w64 (by omega) (by omega)]; omega
 simp -dsimp only [go_sem, e1, hl]
 obtain ⟨la, hla⟩ : ∃ la, la = T (p - 1) := ⟨_, rfl⟩
 rw [← hla]
 have hlb := hT (p - 1) (by omega)
 rw [← hla] at hlb
 refine q0h (m := fun (s : Nat × Option Addr) => p - s.1) (I := fun s σ H' => s.1 ≤ p - 1 ∧ Ext H H' ∧ Own H.length H' s.2 (difL T la s.1) ∧ (s.2 = none ↔ difL T la s.1 = []) ∧ σ 0 = .int .i64 (p : Int) ∧ σ 1 = .func (.func g) #[] cap.toArray ∧ σ 5 = .int .i64 la ∧ σ 6 = .slice s.2 s.1 s.1 ∧ σ 13 = .int .i64 ((p - 1 : Nat) : Int) ∧ σ 14 = .int .i64 (s.1 : Int)) (0, none) ⟨Nat.zero_le _, Ext.refl _, Own.nil, by simp [difL], rfl, rfl, rfl, rfl, rfl, rfl⟩ ?_
 rintro ⟨i, a2⟩ σ H' ⟨h1, hE, hO, hN, s0, s1, s5, s6, s13, s14⟩
 simp only at h1 hO hN s6 s14
 have hlen := q3h T la i
 by_cases hi : i < p - 1
 ·have f1 : ((i : Int) < ((p - 1 : Nat) : Int)) = True := eq_true (by omega)
  have hTi := hT i (by omega)
  have hlo := hE.le
  have e7 : IntKind.i64.wrap ((i : Int) + 1) = ((i + 1 : Nat) : Int) := by rw [w64 (by omega) (by omega)]; omega
  have e8 := wI64 (n := T i - la) (by omega) (by omega)
  have hgi := fun lk => hg lk H' i hE (by omega)
  have hk := fun lk H' => c_Int lk H' (T i - la) ⟨by omega, by omega⟩
  have hds := difL_succ T la i
  generalize ((T i - la : Int) : Rat) = r at hk hds
  have hap := fun t t2 => ap_own (P := prog) (lk := H.length) (t := t) (t2 := t2) hO (Nat.le_refl _) hlen.symm [.bool (decide (r.num < 0)), .string (mkS (q0b r.num.natAbs)), .string (mkS (q0b r.den))] 3 rfl rfl
  have hO2 := q9p (lo := H.length) (H := H') (a := a2) (l := difL T la i) r [⟨[.bool (decide (r.num < 0)), .string (mkS (q0b r.num.natAbs)), .string (mkS (q0b r.den))], 3, false⟩] (by simp; omega)
  have hE2 : Ext H (kill (H' ++ [⟨[.bool (decide (r.num < 0)), .string (mkS (q0b r.num.natAbs)), .string (mkS (q0b r.den))], 3, false⟩]) a2) := (hO.more _).kill (hE.more _)
  rw [← hds] at hO2
  simp -dsimp only [go_sem, s0, s1, s5, s6, s13, s14, f1, hgi, e8, hk, e7, reps, hap, hlo]
  exact ⟨by omega, next (i + 1, some ⟨H'.length + 1, 0, none⟩) (by show p - (i + 1) < p - i; omega) ⟨by simp only; omega, hE2.more _, hO2, by simp [hds], s0, s1, s5, rfl, s13, rfl⟩⟩
 ·have hi' : i = p - 1 := by omega
  subst hi'
  have htr := fun lk => p_PTrim lk H' a2 (difL T la (p - 1)) (p - 1) hlen.symm (by omega) hO.sl
  have f1 : (((p - 1 : Nat) : Int) < ((p - 1 : Nat) : Int)) = False := eq_false (by omega)
  have hc := compV_take hO (q6v (difL T la (p - 1)) (p - 1)) hlen (w1y (fun x => rfl) _)
  simp -dsimp only [go_sem, s0, s1, s5, s6, s13, s14, f1, htr]
  exact hc
theorem compV_slR {H H' : Heap} {a : Option Addr} {l : List Rat} {k : Nat} (hE : Ext H H') (h : SL H' a l) (hk : k = l.length) (hkok : (q0g l).all kok0 = true) :
  ∃ v N, q4i H' H.length (.slice a k k) = some (v, N) ∧ ∃ a', v = .slice a' k k ∧ SL (H ++ N) a' l := by
 subst hk
 rcases h with ⟨rfl, rfl⟩ | ⟨b, o, B, rfl, h2, h3, h4, h5⟩
 ·exact ⟨_, _, rfl, none, rfl, .inl ⟨rfl, rfl⟩⟩
 ·have h3' : B.sz = 3 := h3
  have h4' : (B.c.drop o).take (l.length * 3) = q0g l := h4
  by_cases hb : b < H.length
  ·refine ⟨.slice (some ⟨b, o, none⟩) l.length l.length, [], by simp [q4i, w1w, q2f, hb], _, rfl, .inr ⟨b, o, B, rfl, ?_, h3, h4, h5⟩⟩
   rw [List.append_nil]
   unfold q0e at h2 ⊢
   rw [hE b hb] at h2; exact h2
  ·refine ⟨.slice (some ⟨H.length, 0, none⟩) l.length l.length, [⟨q0g l, 3, false⟩], ?_, _, rfl, .inr ⟨H.length, 0, _, rfl, q0j _ _, rfl, ?_, ?_⟩⟩
   ·simp only [q4i, w1w, q2f, if_neg hb, h2, h3', h4']
    rw [if_pos (by refine ⟨trivial, by rw [← h3']; rw [h3]; exact h5, by simp, hkok⟩)]
    rfl
   ·show ((q0g l).drop 0).take (l.length * 3) = q0g l
    rw [List.drop_zero, List.take_of_length_le]
    rw [q1l]; exact Nat.le_refl _
   ·show 0 + l.length * 3 ≤ (q0g l).length
    rw [q1l, Nat.zero_add]; exact Nat.le_refl _
def perT (p f : Nat) (a : Int) (b : Nat) : Int := (cntP (p : Int) f (a % (p : Int)) (b : Int) 24 : Nat)
def perL (p f : Nat) (a : Int) : List Rat := (difL (perT p f a) (perT p f a (p - 1)) (p - 1)).take (q2m (difL (perT p f a) (perT p f a (p - 1)) (p - 1)) (p - 1))
theorem p_period (lk : Nat) (H : Heap) (p f : Nat) (a : Int) (hp : 2 ≤ p) (hp2 : p ≤ 23) (hf : f ≤ 9223372036854775807) :
  ∃ v N, q0c prog md lk 84 [.int .i64 (p : Int), .int .i64 (f : Int), .int .i64 a] H = some (v, H ++ N) ∧ ∃ a', v = .slice a' (perL p f a).length (perL p f a).length ∧ SL (H ++ N) a' (perL p f a) := by
 refine q3m rfl Tryz.func84 rfl ?_
 have hsub := fun lk H' => p_subgroup lk H' (p : Int) f (by omega) (by omega) hf
 have h0 : ((p : Int) ≠ 0) = True := eq_true (by omega)
 obtain ⟨t1, t2⟩ := q6w a (m := (p : Int)) (by omega)
 have w := wI64 (n := a.tmod (p : Int) + (p : Int)) (by omega) (by omega)
 have mt := mod_twice a (m := (p : Int)) (by omega)
 have hput : ∀ z : List Value, z.length = 24 → iput z 0 (q3s (p : Int) f 24) = q3s (p : Int) f 24 := fun z hz => by
  unfold iput
  rw [q7s, List.take_zero, List.nil_append, List.drop_of_length_le (by omega), List.append_nil]
 have hput := hput [.bool false, .bool false, .bool false, .bool false, .bool false, .bool false, .bool false, .bool false, .bool false, .bool false, .bool false, .bool false, .bool false, .bool false, .bool false, .bool false, .bool false, .bool false, .bool false, .bool false, .bool false, .bool false, .bool false, .bool false] rfl
 have hr1 : 0 ≤ a % (p : Int) := Int.emod_nonneg _ (by omega)
 have hr2 : a % (p : Int) < (p : Int) := Int.emod_lt_of_pos _ (by omega)
 obtain ⟨v, N, k1, a1, rfl, k2⟩ := p_sum H.length (H ++ [⟨[.int .i64 (p : Int)], 1, false⟩, ⟨[.int .i64 (a % (p : Int))], 1, false⟩, ⟨q3s (p : Int) f 24, 1, false⟩]) p 138 [.pointer (some ⟨H.length + 2, 0, none⟩), .pointer (some ⟨H.length + 1, 0, none⟩), .pointer (some ⟨H.length, 0, none⟩)] (perT p f a) hp hp2
  (fun b _ => by have := cntP_le (p : Int) f (a % (p : Int)) (b : Int) 24; unfold perT; omega)
  (fun lk' H' b hE _ => by
   have e0 : q0e (H ++ [⟨[.int .i64 (p : Int)], 1, false⟩, ⟨[.int .i64 (a % (p : Int))], 1, false⟩, ⟨q3s (p : Int) f 24, 1, false⟩]) (H.length + 2) = some ⟨q3s (p : Int) f 24, 1, false⟩ := by rw [q2q]; rfl
   have e1 : q0e (H ++ [⟨[.int .i64 (p : Int)], 1, false⟩, ⟨[.int .i64 (a % (p : Int))], 1, false⟩, ⟨q3s (p : Int) f 24, 1, false⟩]) (H.length + 1) = some ⟨[.int .i64 (a % (p : Int))], 1, false⟩ := by rw [q2q]; rfl
   have e2 : q0e (H ++ [⟨[.int .i64 (p : Int)], 1, false⟩, ⟨[.int .i64 (a % (p : Int))], 1, false⟩, ⟨q3s (p : Int) f 24, 1, false⟩]) H.length = some ⟨[.int .i64 (p : Int)], 1, false⟩ := by rw [q9f]; rfl
   exact p_times lk' H' (p : Int) f (a % (p : Int)) (b : Int) _ _ _ (by omega) (by omega) hr1 hr2 (hE.live e0) (hE.live e1) (hE.live e2))
 have hlen : (perL p f a).length = q2m (difL (perT p f a) (perT p f a (p - 1)) (p - 1)) (p - 1) := by
  unfold perL
  rw [List.length_take, q3h]
  have := q6v (difL (perT p f a) (perT p f a (p - 1)) (p - 1)) (p - 1)
  omega
 have hE : Ext H ((H ++ [⟨[.int .i64 (p : Int)], 1, false⟩, ⟨[.int .i64 (a % (p : Int))], 1, false⟩, ⟨q3s (p : Int) f 24, 1, false⟩]) ++ N) := (Ext.app _ _).more _
 have hc := compV_slR (k := (perL p f a).length) hE k2 rfl (w1y (fun x => rfl) _)
 rw [← hlen] at k1
 have hl := q7s (p : Int) f 24
 simp -dsimp only [go_sem, hsub, h0, w, mt, hput, hl, k1, q9q, List.all_cons, List.all_nil]
 first | exact ⟨rfl, trivial, hc⟩ | exact ⟨trivial, hc⟩ | (simp only [List.append_assoc, List.cons_append, List.nil_append] at hc; exact hc)
end Gx
end
section
/- The lower hull. -/
set_option autoImplicit false
namespace Gx
def dd (a b c d : Vtx) : Int := (b.x - a.x) * (d.y - c.y) - (b.y - a.y) * (d.x - c.x)
abbrev v0 : Vtx := ⟨0, 0⟩
end Gx
end
section
set_option autoImplicit false
namespace Gx
open Go Go.Proofs
open Go.Proofs.Tryz (prog)
set_option maxRecDepth 10000
def vq (p n : Nat) : Nat := n / p ^ vp p n
theorem r2_Neg (lk : Nat) (H : Heap) (z : Int) : q0c prog md lk 217 [vI z] H = some (vI (-z), H) := by
 refine q0a rfl Tryz.func217 rfl rfl ?_
 simp -dsimp only [go_sem, w2o, sg_neg, sg_self]
theorem r3_Neg (lk : Nat) (H : Heap) (q : Rat) : q0c prog md lk 174 [vR q] H = some (vR (-q), H) := by
 refine q0a rfl Tryz.func174 rfl rfl ?_
 simp -dsimp only [go_sem, r2_Neg]
 exact vR_mk _ _ _ (Rat.neg_num q) (Rat.neg_den q)
theorem r3_Whole (lk : Nat) (H : Heap) (z : Int) : q0c prog md lk 131 [vI z] H = some (vR (z : Rat), H) := by
 refine q0a rfl Tryz.func131 rfl rfl ?_
 have one : [1] = q0b 1 := bytes_one.symm
 simp -dsimp only [go_sem, one]
 exact vR_mk _ _ _ rfl rfl
theorem r3_Add (lk : Nat) (H : Heap) (a b : Rat) (h1 : (q0b a.num.natAbs).length < 4900000) (h2 : (q0b b.num.natAbs).length < 4900000) (h3 : (q0b a.den).length < 4900000) (h4 : (q0b b.den).length < 4900000) :
  q0c prog md lk 77 [vR a, vR b] H = some (vR (a + b), H) := by
 refine q0a rfl Tryz.func77 rfl rfl ?_
 have one : [1] = q0b 1 := bytes_one.symm
 have k1 := fun lk H' => r2_Mul lk H' a.num b.den (by omega) (by rw [Int.natAbs_natCast]; omega)
 have k2 := fun lk H' => r2_Mul lk H' b.num a.den (by omega) (by rw [Int.natAbs_natCast]; omega)
 have k3 := fun lk H' => r2_Mul lk H' (a.den : Int) (b.den : Int) (by rw [Int.natAbs_natCast]; omega) (by rw [Int.natAbs_natCast]; omega)
 have l1 := q9x a.num.natAbs b.den
 have l2 := q9x b.num.natAbs a.den
 have l3 := q9x a.den b.den
 have n1 : (a.num * (b.den : Int)).natAbs = a.num.natAbs * b.den := by rw [Int.natAbs_mul, Int.natAbs_natCast]
 have n2 : (b.num * (a.den : Int)).natAbs = b.num.natAbs * a.den := by rw [Int.natAbs_mul, Int.natAbs_natCast]
 have n3 : ((a.den : Int) * (b.den : Int)).natAbs = a.den * b.den := by rw [Int.natAbs_mul, Int.natAbs_natCast, Int.natAbs_natCast]
 have l4 := bl_add (a.num.natAbs * b.den) (b.num.natAbs * a.den)
 have l5 : (q0b ((a.num * (b.den : Int) + b.num * (a.den : Int)).natAbs)).length ≤ (q0b (a.num.natAbs * b.den + b.num.natAbs * a.den)).length := by
  apply q8p
  have := Int.natAbs_add_le (a.num * (b.den : Int)) (b.num * (a.den : Int))
  omega
 have k4 := fun lk H' => r2_Add lk H' (a.num * (b.den : Int)) (b.num * (a.den : Int)) (by rw [n1]; omega) (by rw [n2]; omega)
 have d1 := a.den_nz
 have d2 := b.den_nz
 have hd : ((a.den : Int) * (b.den : Int)) ≠ 0 := by
  intro h
  rcases Int.mul_eq_zero.1 h with h | h <;> omega
 have k5 := fun lk H' => r3_Make lk H' (a.num * (b.den : Int) + b.num * (a.den : Int)) ((a.den : Int) * (b.den : Int)) hd (by omega) (by rw [n3]; omega)
 have hab : Rat.divInt (a.num * (b.den : Int) + b.num * (a.den : Int)) ((a.den : Int) * (b.den : Int)) = a + b := by
  conv => rhs; rw [← Rat.num_divInt_den a, ← Rat.num_divInt_den b]
  rw [Rat.divInt_add_divInt _ _ (by omega) (by omega)]
 rw [hab] at k5
 have k6 := fun lk H' => r2_Add lk H' a.num b.num (by omega) (by omega)
 by_cases h : a.den = 1 ∧ b.den = 1
 ·obtain ⟨e1, e2⟩ := h
  have f1 : (a.den = 1) = True := eq_true e1
  have f2 : (b.den = 1) = True := eq_true e2
  have hs : ((a.num + b.num : Int) : Rat) = a + b := by
   rw [Rat.intCast_add]
   have w : ∀ q : Rat, q.den = 1 → ((q.num : Int) : Rat) = q := fun q h => Rat.ext rfl h.symm
   rw [w a e1, w b e2]
  have k7 := fun lk H' => r3_Whole lk H' (a.num + b.num)
  rw [hs] at k7
  simp -dsimp only [go_sem, one, q1f, f1, f2, k6, k7]
 ·by_cases e1 : a.den = 1
  ·have f1 : (a.den = 1) = True := eq_true e1
   have f2 : (b.den = 1) = False := eq_false (fun e2 => h ⟨e1, e2⟩)
   simp -dsimp only [go_sem, one, q1f, f1, f2, q4l, k1, k2, k3, k4, k5]
  ·have f1 : (a.den = 1) = False := eq_false e1
   simp -dsimp only [go_sem, one, q1f, f1, q4l, k1, k2, k3, k4, k5]
structure Sm (k : Nat) (q : Rat) : Prop where
 n : (q0b q.num.natAbs).length ≤ k
 d : (q0b q.den).length ≤ k
theorem Sm.mono {k m : Nat} {q : Rat} (h : Sm k q) (hm : k ≤ m) : Sm m q := ⟨Nat.le_trans h.n hm, Nat.le_trans h.d hm⟩
theorem sm_zero : Sm 1 0 := ⟨w0w (by decide), w0w (by decide)⟩
theorem bl_one : (q0b 1).length = 1 := by rw [bytes_one]; rfl
theorem sm_int {x : Int} {k : Nat} (h : (q0b x.natAbs).length ≤ k) (hk : 1 ≤ k) : Sm k (x : Rat) := ⟨h, by show (q0b 1).length ≤ k; rw [bl_one]; exact hk⟩
theorem sm_i64 {x : Int} (h : I64 x) : Sm 8 (x : Rat) := sm_int (bl_int h) (by decide)
theorem divInt_sm {k : Nat} (a b : Int) (hb : b ≠ 0) (h1 : (q0b a.natAbs).length ≤ k) (h2 : (q0b b.natAbs).length ≤ k) : Sm k (Rat.divInt a b) := by
 obtain ⟨r1, r2⟩ := w4g a b hb
 refine ⟨?_, ?_⟩
 ·rw [r1, w1e]; exact Nat.le_trans (q8p (Nat.div_le_self _ _)) h1
 ·rw [r2]; exact Nat.le_trans (q8p (Nat.div_le_self _ _)) h2
theorem w3h (a b : Rat) : Rat.divInt (a.num * (b.den : Int) + b.num * (a.den : Int)) ((a.den : Int) * (b.den : Int)) = a + b := by
 have d1 := a.den_nz
 have d2 := b.den_nz
 conv => rhs; rw [← Rat.num_divInt_den a, ← Rat.num_divInt_den b]
 rw [Rat.divInt_add_divInt _ _ (by omega) (by omega)]
theorem w2u (a b : Rat) : Rat.divInt (a.num * b.num) ((a.den : Int) * (b.den : Int)) = a * b := by
 conv => rhs; rw [← Rat.num_divInt_den a, ← Rat.num_divInt_den b]
 rw [Rat.divInt_mul_divInt]
theorem dens_ne (a b : Rat) : ((a.den : Int) * (b.den : Int)) ≠ 0 := by
 have d1 := a.den_nz
 have d2 := b.den_nz
 intro h
 rcases Int.mul_eq_zero.1 h with h | h <;> omega
theorem add_num_bl {k m : Nat} {a b : Rat} (ha : Sm k a) (hb : Sm m b) : (q0b ((a.num * (b.den : Int) + b.num * (a.den : Int)).natAbs)).length ≤ k + m + 1 := by
 have l1 := q9x a.num.natAbs b.den
 have l2 := q9x b.num.natAbs a.den
 have l4 := bl_add (a.num.natAbs * b.den) (b.num.natAbs * a.den)
 have l5 : (q0b ((a.num * (b.den : Int) + b.num * (a.den : Int)).natAbs)).length ≤ (q0b (a.num.natAbs * b.den + b.num.natAbs * a.den)).length := by
  apply q8p
  have := Int.natAbs_add_le (a.num * (b.den : Int)) (b.num * (a.den : Int))
  rw [Int.natAbs_mul, Int.natAbs_mul, Int.natAbs_natCast, Int.natAbs_natCast] at this
  exact this
 have := ha.n; have := ha.d; have := hb.n; have := hb.d
 omega
theorem dens_bl {k m : Nat} {a b : Rat} (ha : Sm k a) (hb : Sm m b) : (q0b ((a.den : Int) * (b.den : Int)).natAbs).length ≤ k + m := by
 have l3 := q9x a.den b.den
 have := ha.d; have := hb.d
 rw [Int.natAbs_mul, Int.natAbs_natCast, Int.natAbs_natCast]; omega
theorem sm_add {k m : Nat} {a b : Rat} (ha : Sm k a) (hb : Sm m b) : Sm (k + m + 1) (a + b) := by
 rw [← w3h]
 exact divInt_sm _ _ (dens_ne a b) (add_num_bl ha hb) (Nat.le_trans (dens_bl ha hb) (by omega))
theorem w2t {k m : Nat} {a b : Rat} (ha : Sm k a) (hb : Sm m b) : (q0b (a.num * b.num).natAbs).length ≤ k + m := by
 have l3 := q9x a.num.natAbs b.num.natAbs
 have := ha.n; have := hb.n
 rw [Int.natAbs_mul]; omega
theorem sm_mul {k m : Nat} {a b : Rat} (ha : Sm k a) (hb : Sm m b) : Sm (k + m) (a * b) := by
 rw [← w2u]
 exact divInt_sm _ _ (dens_ne a b) (w2t ha hb) (dens_bl ha hb)
theorem sm_neg {k : Nat} {a : Rat} (ha : Sm k a) : Sm k (-a) := ⟨by rw [Rat.neg_num, Int.natAbs_neg]; exact ha.n, by rw [Rat.neg_den]; exact ha.d⟩
theorem sm_sub {k m : Nat} {a b : Rat} (ha : Sm k a) (hb : Sm m b) : Sm (k + m + 1) (a - b) := by rw [Rat.sub_eq_add_neg]; exact sm_add ha (sm_neg hb)
theorem rat_inv (q : Rat) (hq : q ≠ 0) : (q⁻¹).num = sg (decide (q.num < 0)) q.den ∧ (q⁻¹).den = q.num.natAbs := by
 have h0 : q.num ≠ 0 := fun h => hq (Rat.num_eq_zero.1 h)
 rw [Rat.inv_def]
 obtain ⟨r1, r2⟩ := w4g (q.den : Int) q.num h0
 have hg : Nat.gcd (q.den : Int).natAbs q.num.natAbs = 1 := by rw [Int.natAbs_natCast, Nat.gcd_comm]; exact q.reduced
 rw [hg, Nat.div_one] at r1 r2
 refine ⟨?_, r2⟩
 rw [r1, Int.natAbs_natCast]
 have : decide ((q.den : Int) < 0) = false := decide_eq_false (by omega)
 rw [this]
 cases decide (q.num < 0) <;> rfl
theorem sm_inv {k : Nat} {q : Rat} (h : Sm k q) (hk : 1 ≤ k) : Sm k q⁻¹ := by
 by_cases hq : q = 0
 ·subst hq; rw [Rat.inv_zero]; exact sm_zero.mono hk
 ·obtain ⟨r1, r2⟩ := rat_inv q hq
  exact ⟨by rw [r1, w1e]; exact h.d, by rw [r2]; exact h.n⟩
theorem w0a (q : Rat) (h : q.den = 1) : ((q.num : Int) : Rat) = q := Rat.ext rfl h.symm

theorem c_IntNeg (lk : Nat) (H : Heap) (z : Int) : q0c prog md lk 213 [vI z] H = some (vI (-z), H) := by
 refine q0a rfl Tryz.func213 rfl rfl ?_
 simp -dsimp only [go_sem, q3o, sg_neg, sg_self]
theorem c_IntAdd (lk : Nat) (H : Heap) (a b : Int) (hla : (q0b a.natAbs).length < 10000000) (hlb : (q0b b.natAbs).length < 10000000) : q0c prog md lk 155 [vI a, vI b] H = some (vI (a + b), H) := by
 refine q0a rfl Tryz.func155 rfl rfl ?_
 have tb : tbool prog 4 = true := by kernel_rfl
 have k1 := fun lk H' => c_NatAdd lk H' a.natAbs b.natAbs (by omega) (by omega)
 have k4 := fun lk H' => c_NatCmp lk H' a.natAbs b.natAbs
 by_cases h : decide (a < 0) = decide (b < 0)
 ·have hb : (decide (a < 0) == decide (b < 0)) = true := by rw [h]; simp
  simp -dsimp only [go_sem, hb, tb, k1, q3o, sg_add a b h]
 ·have hb : (decide (a < 0) == decide (b < 0)) = false := by
   cases hx : decide (a < 0) <;> cases hy : decide (b < 0) <;> simp_all
  by_cases hc : a.natAbs < b.natAbs
  ·rw [if_pos hc] at k4
   have k3 := fun lk H' => c_NatSub lk H' b.natAbs a.natAbs (by omega) (by omega)
   have e := sg_sub b a (fun h2 => h h2.symm) (by omega)
   rw [Int.add_comm] at e
   simp -dsimp only [go_sem, hb, tb, k3, k4, q3o, e]
  ·have f : ((if a.natAbs < b.natAbs then (-1 : Int) else if a.natAbs = b.natAbs then 0 else 1) < 0) = False := eq_false (by rw [if_neg hc]; split <;> omega)
   have k2 := fun lk H' => c_NatSub lk H' a.natAbs b.natAbs (by omega) (by omega)
   have e := sg_sub a b h (by omega)
   simp -dsimp only [go_sem, hb, tb, k2, k4, f, q3o, e]
theorem c_IntMul (lk : Nat) (H : Heap) (a b : Int) (hla : (q0b a.natAbs).length < 10000000) (hlb : (q0b b.natAbs).length < 10000000) : q0c prog md lk 162 [vI a, vI b] H = some (vI (a * b), H) := by
 refine q0a rfl Tryz.func162 rfl rfl ?_
 have tb : tbool prog 4 = true := by kernel_rfl
 have k1 := fun lk H' => w2c lk H' a.natAbs b.natAbs (by omega) (by omega)
 simp -dsimp only [go_sem, tb, k1, q3o, sg_mulI]
theorem c_Neg (lk : Nat) (H : Heap) (q : Rat) : q0c prog md lk 159 [vR q] H = some (vR (-q), H) := by
 refine q0a rfl Tryz.func159 rfl rfl ?_
 simp -dsimp only [go_sem, c_IntNeg]
 exact vR_mk _ _ _ (Rat.neg_num q) (Rat.neg_den q)
theorem c_Add (lk : Nat) (H : Heap) (a b : Rat) (ha : Sm 4800000 a) (hb : Sm 4800000 b) : q0c prog md lk 100 [vR a, vR b] H = some (vR (a + b), H) := by
 refine q0a rfl Tryz.func100 rfl rfl ?_
 have one : [1] = q0b 1 := bytes_one.symm
 have h1 := ha.n; have h2 := ha.d; have h3 := hb.n; have h4 := hb.d
 have l1 := q9x a.num.natAbs b.den
 have l2 := q9x b.num.natAbs a.den
 have l3 := q9x a.den b.den
 have k1 := fun lk H' => w2c lk H' a.num.natAbs b.den (by omega) (by omega)
 have k2 := fun lk H' => w2c lk H' b.num.natAbs a.den (by omega) (by omega)
 have k3 := fun lk H' => w2c lk H' a.den b.den (by omega) (by omega)
 have n1 : (a.num * (b.den : Int)).natAbs = a.num.natAbs * b.den := by rw [Int.natAbs_mul, Int.natAbs_natCast]
 have n2 : (b.num * (a.den : Int)).natAbs = b.num.natAbs * a.den := by rw [Int.natAbs_mul, Int.natAbs_natCast]
 have k4 := fun lk H' => c_IntAdd lk H' (a.num * (b.den : Int)) (b.num * (a.den : Int)) (by rw [n1]; omega) (by rw [n2]; omega)
 have hl := add_num_bl ha hb
 have hd := dens_bl ha hb
 have k5 := fun lk H' => c_Make lk H' (a.num * (b.den : Int) + b.num * (a.den : Int)) ((a.den : Int) * (b.den : Int)) (dens_ne a b) (by omega) (by omega)
 rw [w3h] at k5
 have k6 := fun lk H' => c_IntAdd lk H' a.num b.num (by omega) (by omega)
 have vd : Value.agg (List.toArray [.bool false, .string (mkS (q0b (a.den * b.den)))]) = vI ((a.den : Int) * (b.den : Int)) := by rw [← Int.natCast_mul]; exact vI_pos _
 by_cases h : a.den = b.den
 ·have f1 : (a.den = b.den) = True := eq_true h
  by_cases e1 : a.den = 1
  ·have f2 : (a.den = 1) = True := eq_true e1
   have hs : ((a.num + b.num : Int) : Rat) = a + b := by
    rw [Rat.intCast_add, w0a a e1, w0a b (by omega)]
   have k7 := fun lk H' => c_Whole lk H' (a.num + b.num)
   rw [hs] at k7
   simp -dsimp only [go_sem, one, q1f, f1, f2, k6, k7]
  ·have f2 : (a.den = 1) = False := eq_false e1
   have la := bl_add a.num.natAbs b.num.natAbs
   have lb : (q0b (a.num + b.num).natAbs).length ≤ (q0b (a.num.natAbs + b.num.natAbs)).length := q8p (Int.natAbs_add_le _ _)
   have k8 := fun lk H' => c_Make lk H' (a.num + b.num) (a.den : Int) (by have := a.den_nz; omega) (by omega) (by rw [Int.natAbs_natCast]; omega)
   have e2 : Rat.divInt (a.num + b.num) (a.den : Int) = a + b := by
    rw [← w3h, ← h]
    have d1 := a.den_nz
    rw [← Int.add_mul, Rat.divInt_mul_right (by omega)]
   rw [e2] at k8
   have vd2 : Value.agg (List.toArray [.bool false, .string (mkS (q0b a.den))]) = vI (a.den : Int) := vI_pos _
   simp -dsimp only [go_sem, one, q1f, f1, f2, k6, vd2, k8]
 ·have f1 : (a.den = b.den) = False := eq_false h
  simp -dsimp only [go_sem, one, q1f, f1, k1, k2, k3, k4, q3o, sg_mul, vd, k5]
theorem c_Sub (lk : Nat) (H : Heap) (a b : Rat) (ha : Sm 4800000 a) (hb : Sm 4800000 b) : q0c prog md lk 101 [vR a, vR b] H = some (vR (a - b), H) := by
 refine q0a rfl Tryz.func101 rfl rfl ?_
 have k := fun lk H' => c_Add lk H' a (-b) ha (sm_neg hb)
 rw [← Rat.sub_eq_add_neg] at k
 simp -dsimp only [go_sem, c_Neg, k]
theorem c_Mul (lk : Nat) (H : Heap) (a b : Rat) (ha : Sm 4800000 a) (hb : Sm 4800000 b) : q0c prog md lk 104 [vR a, vR b] H = some (vR (a * b), H) := by
 refine q0a rfl Tryz.func104 rfl rfl ?_
 have one : [1] = q0b 1 := bytes_one.symm
 have h1 := ha.n; have h2 := ha.d; have h3 := hb.n; have h4 := hb.d
 have k1 := fun lk H' => c_IntMul lk H' a.num b.num (by omega) (by omega)
 have k3 := fun lk H' => w2c lk H' a.den b.den (by omega) (by omega)
 have hl := w2t ha hb
 have hd := dens_bl ha hb
 have k5 := fun lk H' => c_Make lk H' (a.num * b.num) ((a.den : Int) * (b.den : Int)) (dens_ne a b) (by omega) (by omega)
 rw [w2u] at k5
 have vd : Value.agg (List.toArray [.bool false, .string (mkS (q0b (a.den * b.den)))]) = vI ((a.den : Int) * (b.den : Int)) := by rw [← Int.natCast_mul]; exact vI_pos _
 by_cases e1 : a.den = 1
 ·have f1 : (a.den = 1) = True := eq_true e1
  by_cases e2 : b.den = 1
  ·have f2 : (b.den = 1) = True := eq_true e2
   have hs : ((a.num * b.num : Int) : Rat) = a * b := by rw [Rat.intCast_mul, w0a a e1, w0a b e2]
   have k7 := fun lk H' => c_Whole lk H' (a.num * b.num)
   rw [hs] at k7
   simp -dsimp only [go_sem, one, q1f, f1, f2, k1, k7]
  ·have f2 : (b.den = 1) = False := eq_false e2
   simp -dsimp only [go_sem, one, q1f, f1, f2, k1, k3, vd, k5]
 ·have f1 : (a.den = 1) = False := eq_false e1
  simp -dsimp only [go_sem, one, q1f, f1, k1, k3, vd, k5]
theorem vR_inv (q : Rat) (hq : q ≠ 0) : Value.agg (List.toArray [.bool (decide (q.num < 0)), .string (mkS (q0b q.den)), .string (mkS (q0b q.num.natAbs))]) = vR q⁻¹ := by
 obtain ⟨r1, r2⟩ := rat_inv q hq
 have h1 : decide ((q⁻¹).num < 0) = decide (q.num < 0) := by
  rw [r1]
  have := q.den_pos
  unfold sg
  by_cases h : q.num < 0
  ·rw [decide_eq_true h, if_pos rfl]; exact decide_eq_true (by omega)
  ·rw [decide_eq_false h, if_neg (by decide)]; exact decide_eq_false (by omega)
 unfold vR
 rw [h1, r2, r1, w1e]
theorem c_Inverse (lk : Nat) (H : Heap) (q : Rat) (hq : q ≠ 0) : q0c prog md lk 161 [vR q] H = some (vR q⁻¹, H) := by
 refine q0a rfl Tryz.func161 rfl (by rfl) ?_
 simp -dsimp only [go_sem, vR_inv q hq]
theorem c_IsWhole (lk : Nat) (H : Heap) (q : Rat) : q0c prog md lk 179 [vR q] H = some (.bool (decide (q.den = 1)), H) := by
 refine q0a rfl Tryz.func179 rfl rfl ?_
 have one : [1] = q0b 1 := bytes_one.symm
 simp -dsimp only [go_sem, one, q1f]
def lrg (q : Rat) : Bool := decide (1024 < (q0b q.num.natAbs).length) || decide (1024 < (q0b q.den).length)
theorem c_Large (lk : Nat) (H : Heap) (q : Rat) : q0c prog md lk 67 [vR q] H = some (.bool (lrg q), H) := by
 refine q0a rfl Tryz.func67 rfl rfl ?_
 unfold lrg
 by_cases h : 1024 < (q0b q.num.natAbs).length
 ·have f1 : (1024 < ((q0b q.num.natAbs).length : Int)) = True := eq_true (by omega)
  have f2 : (1024 < (q0b q.num.natAbs).length) = True := eq_true h
  simp -dsimp only [go_sem, f1, f2]
 ·have f1 : (1024 < ((q0b q.num.natAbs).length : Int)) = False := eq_false (by omega)
  have f2 : (1024 < (q0b q.num.natAbs).length) = False := eq_false h
  by_cases h2 : 1024 < (q0b q.den).length
  ·have f3 : (1024 < ((q0b q.den).length : Int)) = True := eq_true (by omega)
   have f4 : (1024 < (q0b q.den).length) = True := eq_true h2
   simp -dsimp only [go_sem, f1, f2, f3, f4]
  ·have f3 : (1024 < ((q0b q.den).length : Int)) = False := eq_false (by omega)
   have f4 : (1024 < (q0b q.den).length) = False := eq_false h2
   simp -dsimp only [go_sem, f1, f2, f3, f4]

theorem w2m (lk : Nat) (H : Heap) (a b : Rat) (ha : Sm 4800000 a) (hb : Sm 4800000 b) : q0c prog md lk 77 [vR a, vR b] H = some (vR (a + b), H) := by
 have h1 := ha.n; have h2 := ha.d; have h3 := hb.n; have h4 := hb.d
 exact r3_Add lk H a b (by omega) (by omega) (by omega) (by omega)
theorem r3_Sub (lk : Nat) (H : Heap) (a b : Rat) (ha : Sm 4800000 a) (hb : Sm 4800000 b) : q0c prog md lk 223 [vR a, vR b] H = some (vR (a - b), H) := by
 refine q0a rfl Tryz.func223 rfl rfl ?_
 have k := fun lk H' => w2m lk H' a (-b) ha (sm_neg hb)
 rw [← Rat.sub_eq_add_neg] at k
 simp -dsimp only [go_sem, r3_Neg, k]
theorem w3l (lk : Nat) (H : Heap) (a b : Rat) (ha : Sm 4800000 a) (hb : Sm 4800000 b) : q0c prog md lk 80 [vR a, vR b] H = some (vR (a * b), H) := by
 refine q0a rfl Tryz.func80 rfl rfl ?_
 have one : [1] = q0b 1 := bytes_one.symm
 have h1 := ha.n; have h2 := ha.d; have h3 := hb.n; have h4 := hb.d
 have k1 := fun lk H' => r2_Mul lk H' a.num b.num (by omega) (by omega)
 have k3 := fun lk H' => r2_Mul lk H' (a.den : Int) (b.den : Int) (by rw [Int.natAbs_natCast]; omega) (by rw [Int.natAbs_natCast]; omega)
 have hl := w2t ha hb
 have hd := dens_bl ha hb
 have k5 := fun lk H' => r3_Make lk H' (a.num * b.num) ((a.den : Int) * (b.den : Int)) (dens_ne a b) (by omega) (by omega)
 rw [w2u] at k5
 by_cases e1 : a.den = 1
 ·have f1 : (a.den = 1) = True := eq_true e1
  by_cases e2 : b.den = 1
  ·have f2 : (b.den = 1) = True := eq_true e2
   have hs : ((a.num * b.num : Int) : Rat) = a * b := by rw [Rat.intCast_mul, w0a a e1, w0a b e2]
   have k7 := fun lk H' => r3_Whole lk H' (a.num * b.num)
   rw [hs] at k7
   simp -dsimp only [go_sem, one, q1f, f1, f2, k1, k7]
  ·have f2 : (b.den = 1) = False := eq_false e2
   simp -dsimp only [go_sem, one, q1f, f1, f2, q4l, k1, k3, k5]
 ·have f1 : (a.den = 1) = False := eq_false e1
  simp -dsimp only [go_sem, one, q1f, f1, q4l, k1, k3, k5]
theorem w2l (lk : Nat) (H : Heap) (q : Rat) (hq : q ≠ 0) : q0c prog md lk 167 [vR q] H = some (vR q⁻¹, H) := by
 refine q0a rfl Tryz.func167 rfl (by rfl) ?_
 have hb : (q0b q.num.natAbs = []) = False := eq_false (by rw [q1b]; exact fun h => hq (Rat.num_eq_zero.1 (by omega)))
 simp -dsimp only [go_sem, hb, vR_inv q hq]
theorem r3_Div (lk : Nat) (H : Heap) (a b : Rat) (ha : Sm 4800000 a) (hb : Sm 4800000 b) (h0 : b ≠ 0) : q0c prog md lk 175 [vR a, vR b] H = some (vR (a / b), H) := by
 refine q0a rfl Tryz.func175 rfl rfl ?_
 have k1 := fun lk H' => w2l lk H' b h0
 have k := fun lk H' => w3l lk H' a b⁻¹ ha (sm_inv hb (by decide))
 rw [← Rat.div_def] at k
 simp -dsimp only [go_sem, k1, k]
theorem r3_Sign (lk : Nat) (H : Heap) (q : Rat) : q0c prog md lk 123 [vR q] H = some (.int .i64 (sgn q.num), H) := by
 refine q0a rfl Tryz.func123 rfl rfl ?_
 have k := fun lk H' => r2_Sign lk H' q.num
 simp -dsimp only [go_sem, k]
end Gx
end
