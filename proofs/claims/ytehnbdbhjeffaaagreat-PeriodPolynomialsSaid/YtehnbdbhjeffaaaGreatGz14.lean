/- Integers and fractions as values. -/
import Derived.Test.YtehnbdbhjeffaaaGreatGz13
set_option linter.all false
section
set_option autoImplicit false
namespace Gx
open Go Go.Proofs
attribute [go_sem] Int.natCast_zero Int.natCast_one q1f q1c Nat.le_add_right
@[go_sem] theorem iput_succ' (x : Value) (c vs : List Value) (o : Nat) : iput (x :: c) (o + 1) vs = x :: iput c o vs := by simp [iput, Nat.add_right_comm]
@[go_sem] theorem iput_zero' (x v : Value) (c vs : List Value) : iput (x :: c) 0 (v :: vs) = v :: iput c 0 vs := by simp [iput]
@[go_sem] theorem iput_nil (c : List Value) : iput c 0 [] = c := by simp [iput]
@[go_sem] theorem isub_succ (x : Value) (c : List Value) (o n : Nat) : isub (x :: c) (o + 1) n = isub c o n := by
 unfold isub
 simp only [List.length_cons, List.drop_succ_cons]
 by_cases h : o + n ≤ c.length
 ·rw [if_pos h, if_pos (by omega)]
 ·rw [if_neg h, if_neg (by omega)]
@[go_sem] theorem isub_zero (x : Value) (c : List Value) (n : Nat) : isub (x :: c) 0 (n + 1) = (isub c 0 n).map (x :: ·) := by
 unfold isub
 simp only [List.length_cons, List.drop_zero, List.take_succ_cons, Nat.zero_add, Nat.add_le_add_iff_right]
 split <;> rfl
@[go_sem] theorem isub_none (c : List Value) : isub c 0 0 = some [] := by simp [isub]
def vI (z : Int) : Value := .agg #[.bool (decide (z < 0)), .string (mkS (q0b z.natAbs))]
def sg (b : Bool) (n : Nat) : Int := if b = true then -(n : Int) else n
@[go_sem] theorem icells_vI (z : Int) : q3d (vI z) = some [.bool (decide (z < 0)), .string (mkS (q0b z.natAbs))] := rfl
@[go_sem] theorem vI_fold (z : Int) : Value.agg (List.toArray [.bool (decide (z < 0)), .string (mkS (q0b z.natAbs))]) = vI z := rfl
theorem vI_pos (n : Nat) : Value.agg (List.toArray [.bool false, .string (mkS (q0b n))]) = vI (n : Int) := by
 unfold vI; rw [Int.natAbs_natCast, decide_eq_false (by omega)]
theorem vI_neg (n : Nat) (h : n ≠ 0) : Value.agg (List.toArray [.bool true, .string (mkS (q0b n))]) = vI (-(n : Int)) := by
 unfold vI; rw [Int.natAbs_neg, Int.natAbs_natCast, decide_eq_true (by omega)]
theorem vI_make (b : Bool) (n : Nat) : Value.agg (List.toArray [.bool (b && !decide (q0b n = [])), .string (mkS (q0b n))]) = vI (sg b n) := by
 unfold sg
 cases b with
 | false => rw [Bool.false_and, if_neg (by decide)]; exact vI_pos n
 | true =>
  rw [Bool.true_and, if_pos rfl]
  by_cases h : n = 0
  ·subst h; simp [vI, q1c]
  ·have : decide (q0b n = []) = false := decide_eq_false (by rw [q1b]; exact h)
   rw [this]; exact vI_neg n h
@[go_sem] theorem kokV_vI (z : Int) : kokV (vI z) = true := rfl
@[go_sem] theorem vI_field {P : Program} {t : TypeId} (z : Int) (i : Nat) : w3q P t (vI z) i = match q5h P t i with
  | some (off, u) => ipart P u [.bool (decide (z < 0)), .string (mkS (q0b z.natAbs))] off
  | none => none := ifield_eq _ _
theorem vI_inj {a b : Int} (h : decide (a < 0) = decide (b < 0)) (h2 : a.natAbs = b.natAbs) : a = b := by
 have h3 : (a < 0) ↔ (b < 0) := by simpa using h
 omega
theorem eqI (a b : Int) : q0q [0, 2] [.bool (decide (a < 0)), .string (mkS (q0b a.natAbs))] [.bool (decide (b < 0)), .string (mkS (q0b b.natAbs))] = some (decide (a = b)) := by
 simp only [q8h, w0r, w0t, Option.map_some, Bool.and_true, q1f]
 congr 1
 apply Bool.eq_iff_iff.2
 rw [Bool.and_eq_true, decide_eq_true_eq, decide_eq_true_eq, beq_iff_eq]
 exact ⟨fun ⟨x, y⟩ => vI_inj x y, fun h => by subst h; exact ⟨rfl, rfl⟩⟩
theorem sk_I : q5m Tryz.prog 53 = some [0, 2] := by kernel_rfl
@[go_sem] theorem vI_eql (a b : Int) : ibin Tryz.prog .eql 53 (vI a) (vI b) = some (.bool (decide (a = b))) := by
 unfold vI; rw [ibin_eqa, sk_I]; simp only [eqI, Option.map_some]
@[go_sem] theorem vI_neq (a b : Int) : ibin Tryz.prog .neq 53 (vI a) (vI b) = some (.bool (!decide (a = b))) := by
 unfold vI; rw [ibin_nea, sk_I]; simp only [eqI, Option.map_some]
theorem bl_lt (n : Nat) : n < 256 ^ (q0b n).length := by have := q5v (q0b n); rwa [q1d] at this
theorem w0w {n k : Nat} (h : n < 256 ^ k) : (q0b n).length ≤ k := bytes_len n k h
theorem q8p {a b : Nat} (h : a ≤ b) : (q0b a).length ≤ (q0b b).length := q9t h
theorem bl_add (a b : Nat) : (q0b (a + b)).length ≤ max ((q0b a).length) ((q0b b).length) + 1 := by
 apply w0w
 have h1 := bl_lt a
 have h2 := bl_lt b
 have h3 := Nat.pow_le_pow_right (show 0 < 256 by decide) (Nat.le_max_left ((q0b a).length) ((q0b b).length))
 have h4 := Nat.pow_le_pow_right (show 0 < 256 by decide) (Nat.le_max_right ((q0b a).length) ((q0b b).length))
 rw [Nat.pow_succ]; omega
theorem q9x (a b : Nat) : (q0b (a * b)).length ≤ (q0b a).length + (q0b b).length := by
 apply w0w
 rw [Nat.pow_add]
 exact Nat.mul_lt_mul'' (bl_lt a) (bl_lt b)
theorem bl_small {n : Nat} (h : n < 18446744073709551616) : (q0b n).length ≤ 8 := w0w (by simpa using h)
theorem w1e (b : Bool) (n : Nat) : (sg b n).natAbs = n := by unfold sg; split <;> simp
theorem sg_self (z : Int) : sg (decide (z < 0)) z.natAbs = z := by
 unfold sg
 by_cases h : z < 0
 ·rw [decide_eq_true h, if_pos rfl]; omega
 ·rw [decide_eq_false h, if_neg (by decide)]; omega
end Gx
end
