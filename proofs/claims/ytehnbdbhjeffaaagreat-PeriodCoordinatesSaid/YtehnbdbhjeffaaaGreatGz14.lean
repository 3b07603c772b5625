/- Integers and fractions as values. -/
import Derived.Test.YtehnbdbhjeffaaaGreatGz13
set_option linter.all false
set_option linter.unusedVariables false
set_option linter.unusedSimpArgs false
set_option linter.unnecessarySimpa false
set_option linter.deprecated false
section
set_option autoImplicit false
namespace Gx
open Go Go.Proofs
attribute [go_sem] Int.natCast_zero Int.natCast_one bytes_inj bytes_zero Nat.le_add_right
@[go_sem] theorem iput_succ' (x : Value) (c vs : List Value) (o : Nat) : iput (x :: c) (o + 1) vs = x :: iput c o vs := by simp [iput, Nat.add_right_comm]
@[go_sem] theorem iput_zero' (x v : Value) (c vs : List Value) : iput (x :: c) 0 (v :: vs) = v :: iput c 0 vs := by simp [iput]
@[go_sem] theorem iput_nil (c : List Value) : iput c 0 [] = c := by simp [iput]
@[go_sem] theorem isub_succ (x : Value) (c : List Value) (o n : Nat) : isub (x :: c) (o + 1) n = isub c o n := by
 unfold isub
 simp only [List.length_cons, List.drop_succ_cons]
 by_cases h : o + n ≤ c.length
 ·rw [if_pos h, if_pos (by omega)]
 ·rw [if_neg h, if_neg (by omega)]
@[go_sem] theorem isub_zero (x : Value) (c : List Value) (n : Nat) : isub (x :: c) 0 (n + 1) = (isub c 0 n).map (x :: ·) := by
 unfold isub
 simp only [List.length_cons, List.drop_zero, List.take_succ_cons, Nat.zero_add, Nat.add_le_add_iff_right]
 split <;> rfl
@[go_sem] theorem isub_none (c : List Value) : isub c 0 0 = some [] := by simp [isub]
def vI (z : Int) : Value := .agg #[.bool (decide (z < 0)), .string (mkS (bytes z.natAbs))]
def sg (b : Bool) (n : Nat) : Int := if b = true then -(n : Int) else n
@[go_sem] theorem icells_vI (z : Int) : icells (vI z) = some [.bool (decide (z < 0)), .string (mkS (bytes z.natAbs))] := rfl
@[go_sem] theorem vI_fold (z : Int) : Value.agg (List.toArray [.bool (decide (z < 0)), .string (mkS (bytes z.natAbs))]) = vI z := rfl
theorem vI_pos (n : Nat) : Value.agg (List.toArray [.bool false, .string (mkS (bytes n))]) = vI (n : Int) := by
 unfold vI; rw [Int.natAbs_natCast, decide_eq_false (by omega)]
theorem vI_neg (n : Nat) (h : n ≠ 0) : Value.agg (List.toArray [.bool true, .string (mkS (bytes n))]) = vI (-(n : Int)) := by
 unfold vI; rw [Int.natAbs_neg, Int.natAbs_natCast, decide_eq_true (by omega)]
theorem vI_make (b : Bool) (n : Nat) : Value.agg (List.toArray [.bool (b && !decide (bytes n = [])), .string (mkS (bytes n))]) = vI (sg b n) := by
 unfold sg
 cases b with
 | false => rw [Bool.false_and, if_neg (by decide)]; exact vI_pos n
 | true =>
  rw [Bool.true_and, if_pos rfl]
  by_cases h : n = 0
  ·subst h; simp [vI, bytes_zero]
  ·have : decide (bytes n = []) = false := decide_eq_false (by rw [bytes_eq_nil]; exact h)
   rw [this]; exact vI_neg n h
@[go_sem] theorem kokV_vI (z : Int) : kokV (vI z) = true := rfl
@[go_sem] theorem vI_field {P : Program} {t : TypeId} (z : Int) (i : Nat) : ifield P t (vI z) i = match tfield P t i with
  | some (off, u) => ipart P u [.bool (decide (z < 0)), .string (mkS (bytes z.natAbs))] off
  | none => none := ifield_eq _ _
theorem vI_inj {a b : Int} (h : decide (a < 0) = decide (b < 0)) (h2 : a.natAbs = b.natAbs) : a = b := by
 have h3 : (a < 0) ↔ (b < 0) := by simpa using h
 omega
theorem eqI (a b : Int) : eqCells [0, 2] [.bool (decide (a < 0)), .string (mkS (bytes a.natAbs))] [.bool (decide (b < 0)), .string (mkS (bytes b.natAbs))] = some (decide (a = b)) := by
 simp only [eqCells_bool, eqCells_str, eqCells_nil, Option.map_some, Bool.and_true, bytes_inj]
 congr 1
 apply Bool.eq_iff_iff.2
 rw [Bool.and_eq_true, decide_eq_true_eq, decide_eq_true_eq, beq_iff_eq]
 exact ⟨fun ⟨x, y⟩ => vI_inj x y, fun h => by subst h; exact ⟨rfl, rfl⟩⟩
theorem sk_I : structK Tryz.prog 53 = some [0, 2] := by kernel_rfl
@[go_sem] theorem vI_eql (a b : Int) : ibin Tryz.prog .eql 53 (vI a) (vI b) = some (.bool (decide (a = b))) := by
 unfold vI; rw [ibin_eqa, sk_I]; simp only [eqI, Option.map_some]
@[go_sem] theorem vI_neq (a b : Int) : ibin Tryz.prog .neq 53 (vI a) (vI b) = some (.bool (!decide (a = b))) := by
 unfold vI; rw [ibin_nea, sk_I]; simp only [eqI, Option.map_some]
theorem bl_lt (n : Nat) : n < 256 ^ (bytes n).length := by have := bval_lt (bytes n); rwa [bval_bytes] at this
theorem bl_le {n k : Nat} (h : n < 256 ^ k) : (bytes n).length ≤ k := bytes_len n k h
theorem bl_mono {a b : Nat} (h : a ≤ b) : (bytes a).length ≤ (bytes b).length := bytes_len_mono h
theorem bl_add (a b : Nat) : (bytes (a + b)).length ≤ max ((bytes a).length) ((bytes b).length) + 1 := by
 apply bl_le
 have h1 := bl_lt a
 have h2 := bl_lt b
 have h3 := Nat.pow_le_pow_right (show 0 < 256 by decide) (Nat.le_max_left ((bytes a).length) ((bytes b).length))
 have h4 := Nat.pow_le_pow_right (show 0 < 256 by decide) (Nat.le_max_right ((bytes a).length) ((bytes b).length))
 rw [Nat.pow_succ]; omega
theorem bl_mul (a b : Nat) : (bytes (a * b)).length ≤ (bytes a).length + (bytes b).length := by
 apply bl_le
 rw [Nat.pow_add]
 exact Nat.mul_lt_mul'' (bl_lt a) (bl_lt b)
theorem sg_natAbs (b : Bool) (n : Nat) : (sg b n).natAbs = n := by unfold sg; split <;> simp
theorem sg_self (z : Int) : sg (decide (z < 0)) z.natAbs = z := by
 unfold sg
 by_cases h : z < 0
 ·rw [decide_eq_true h, if_pos rfl]; omega
 ·rw [decide_eq_false h, if_neg (by decide)]; omega
end Gx
end
