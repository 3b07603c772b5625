/- The calculus over the mini interpreter: lists of words, and helpers for loops. -/
import Derived.Test.YtehnbdbhjeffaaaGreatGz7
import Derived.Laws.BitsLemmas
import Derived.Laws.Bits64
set_option linter.all false
section
set_option autoImplicit false
namespace Gx
open Go Go.RowKit

attribute [go_sem] Nat.add_one_le_iff Int.reduceNe Int.reduceEq Int.reduceLT Int.reduceLE Int.toNat_zero Nat.zero_le Int.natCast_nonneg Int.ofNat_lt Int.ofNat_le Int.toNat_natCast Int.natCast_inj decide_true decide_false

def q1j (ws : List Nat) : List Value := ws.map fun w : Nat => .int .u64 (w : Int)
def wblk (ws : List Nat) : Blk := ⟨q1j ws, 1, false⟩
@[go_sem] theorem w2f (ws : List Nat) : (q1j ws).length = ws.length := by simp [q1j]
theorem q0k (ws : List Nat) (i : Nat) (h : i < ws.length) : (q1j ws)[i]? = some (.int .u64 (ws[i] : Int)) := by simp [q1j, h]
theorem q0p (ws : List Nat) (i w : Nat) (h : i < ws.length) : iput (q1j ws) i [.int .u64 (w : Int)] = q1j (ws.set i w) := by
 unfold iput q1j
 apply List.ext_getElem
 ·simp; omega
 ·intro j h1 h2
  simp only [List.append_assoc, List.length_cons, List.length_nil, Nat.zero_add]
  simp only [List.length_map, List.length_set] at h2
  by_cases h3 : j < i
  ·rw [List.getElem_append_left (by simp; omega)]
   simp [List.getElem_set, Nat.ne_of_gt h3]
  ·rw [List.getElem_append_right (by simp; omega)]
   by_cases h4 : j = i
   ·subst h4
    simp [Nat.min_eq_left (Nat.le_of_lt h)]
   ·rw [List.getElem_append_right (by simp; omega)]
    simp only [List.length_take, List.length_map, List.length_cons, List.length_nil, List.getElem_drop, List.getElem_map]
    rw [List.getElem_set, if_neg (by omega)]
    congr 3
    simp only [Nat.min_eq_left (Nat.le_of_lt h)]; omega
theorem q3j (n : Nat) : reps [.int .u64 0] n = q1j (List.replicate n 0) := by
 induction n with
 | zero => rfl
 | succ n ih => simp only [reps, ih, List.replicate_succ, q1j, List.map_cons, List.cons_append, List.nil_append]; rfl
theorem w1a (ws : List Nat) : (q1j ws).all kok0 = true := by simp [q1j, kok0]

theorem w64 {n : Int} (h1 : -9223372036854775808 ≤ n) (h2 : n ≤ 9223372036854775807) : IntKind.i64.wrap n = n := by
 have := IntKind.wrap_i64 n
 omega

theorem compV_old {H : Heap} {n0 b o n : Nat} (h : b < n0) : q4i H n0 (.slice (some ⟨b, o, none⟩) n n) = some (.slice (some ⟨b, o, none⟩) n n, []) := by
 simp [q4i, w1w, q2f, h]
theorem compV_new {H : Heap} {n0 b o n : Nat} {B : Blk} (h : n0 ≤ b) (hB : q0e H b = some B) (hn : o + n * B.sz ≤ B.c.length) (hk : ((B.c.drop o).take (n * B.sz)).all kok0 = true) : q4i H n0 (.slice (some ⟨b, o, none⟩) n n) = some (.slice (some ⟨n0, 0, none⟩) n n, [⟨(B.c.drop o).take (n * B.sz), B.sz, false⟩]) := by
 simp only [q4i, w1w, q2f, if_neg (Nat.not_lt.2 h), hB]
 rw [if_pos ⟨trivial, hn, rfl, hk⟩]; rfl
theorem w0u {H : Heap} {n0 b n : Nat} {ws : List Nat} (h : n0 ≤ b) (hB : q0e H b = some (wblk ws)) (hn : n ≤ ws.length) : q4i H n0 (.slice (some ⟨b, 0, none⟩) n n) = some (.slice (some ⟨n0, 0, none⟩) n n, [wblk (ws.take n)]) := by
 have e : ((wblk ws).c.drop 0).take (n * (wblk ws).sz) = q1j (ws.take n) := by
  simp [wblk, q1j, List.map_take]
 rw [compV_new h hB (by simp only [wblk, w2f]; omega) (by rw [e]; exact w1a _), e]; rfl

theorem w4n {x y : Nat} (hx : x < 18446744073709551616) (hy : y < 18446744073709551616) : q6t .or .u64 (x : Int) (y : Int) = some (.int .u64 ((x ||| y : Nat) : Int)) := by
 have h : (x ||| y) < 2 ^ 64 := Nat.or_lt_two_pow (by simpa using hx) (by simpa using hy)
 have e : (BitVec.ofInt 64 (x : Int) ||| BitVec.ofInt 64 (y : Int)).toNat = x ||| y := by
  rw [BitVec.toNat_or, BitVec.ofInt_natCast, BitVec.ofInt_natCast, BitVec.toNat_ofNat, BitVec.toNat_ofNat, Nat.mod_eq_of_lt (by simpa using hx), Nat.mod_eq_of_lt (by simpa using hy)]
 change some (Value.int .u64 (IntKind.u64.wrap ((BitVec.ofInt 64 (x : Int) ||| BitVec.ofInt 64 (y : Int)).toNat : Int))) = _
 rw [e, IntKind.wrap_u64]
 congr 2
 omega
theorem ibits_and {x y : Nat} (hx : x < 18446744073709551616) (hy : y < 18446744073709551616) : q6t .and .u64 (x : Int) (y : Int) = some (.int .u64 ((x &&& y : Nat) : Int)) := by
 have h : (x &&& y) < 2 ^ 64 := Nat.and_lt_two_pow _ (by simpa using hy)
 have e : (BitVec.ofInt 64 (x : Int) &&& BitVec.ofInt 64 (y : Int)).toNat = x &&& y := by
  rw [BitVec.toNat_and, BitVec.ofInt_natCast, BitVec.ofInt_natCast, BitVec.toNat_ofNat, BitVec.toNat_ofNat, Nat.mod_eq_of_lt (by simpa using hx), Nat.mod_eq_of_lt (by simpa using hy)]
 change some (Value.int .u64 (IntKind.u64.wrap ((BitVec.ofInt 64 (x : Int) &&& BitVec.ofInt 64 (y : Int)).toNat : Int))) = _
 rw [e, IntKind.wrap_u64]
 congr 2
 omega
theorem u64n {x : Nat} (h : x < 18446744073709551616) : IntKind.u64.wrap (x : Int) = (x : Int) := by rw [IntKind.wrap_u64]; omega
theorem shl_byte {b r : Nat} (hb : b < 256) (hr : r < 8) : IntKind.u64.wrap (IntKind.u64.wrap (b : Int) * 2 ^ min (8 * r) 64) = ((b * 256 ^ r : Nat) : Int) := by
 have h1 : b * 256 ^ r < 18446744073709551616 := by
  have h2 : 256 ^ (r + 1) ≤ 256 ^ 8 := Nat.pow_le_pow_right (by decide) (by omega)
  have h3 : b * 256 ^ r < 256 * 256 ^ r := Nat.mul_lt_mul_of_pos_right hb (Nat.pow_pos (by decide))
  rw [Nat.pow_succ] at h2
  omega
 have e : (2 : Int) ^ min (8 * r) 64 = ((256 ^ r : Nat) : Int) := by
  rw [Nat.min_eq_left (by omega), Int.pow_mul]; simp
 rw [u64n (by omega), e, ← Int.natCast_mul, u64n h1]

def q4a (l : List UInt8) : List Value := l.map fun b => .int .u8 (b.toNat : Int)
def bblk (l : List UInt8) : Blk := ⟨q4a l, 1, false⟩
@[go_sem] theorem bcells_len (l : List UInt8) : (q4a l).length = l.length := by simp [q4a]
theorem bcells_get (l : List UInt8) (i : Nat) (h : i < l.length) : (q4a l)[i]? = some (.int .u8 (l[i].toNat : Int)) := by simp [q4a, h]
theorem bcells_put (l : List UInt8) (i : Nat) (b : UInt8) (h : i < l.length) : iput (q4a l) i [.int .u8 (b.toNat : Int)] = q4a (l.set i b) := by
 unfold iput q4a
 apply List.ext_getElem
 ·simp; omega
 ·intro j h1 h2
  simp only [List.append_assoc, List.length_cons, List.length_nil, Nat.zero_add]
  have h2' : j < l.length := by simpa using h2
  by_cases h3 : j < i
  ·rw [List.getElem_append_left (by simp; omega)]
   simp [List.getElem_set, Nat.ne_of_gt h3]
  ·rw [List.getElem_append_right (by simp; omega)]
   by_cases h4 : j = i
   ·subst h4
    simp [Nat.min_eq_left (Nat.le_of_lt h)]
   ·rw [List.getElem_append_right (by simp; omega)]
    simp only [List.length_take, List.length_map, List.length_cons, List.length_nil, List.getElem_drop, List.getElem_map]
    rw [List.getElem_set, if_neg (by omega)]
    congr 4
    simp only [Nat.min_eq_left (Nat.le_of_lt h)]; omega
theorem bcells_rep (n : Nat) : reps [.int .u8 0] n = q4a (List.replicate n 0) := by
 induction n with
 | zero => rfl
 | succ n ih => simp only [reps, ih, List.replicate_succ, q4a, List.map_cons, List.cons_append, List.nil_append]; rfl
theorem q9u (l : List UInt8) : q5u (q4a l) = some l := by
 induction l with
 | nil => rfl
 | cons b l ih =>
  have : q5u (q4a (b :: l)) = (q5u (q4a l)).map (UInt8.ofNat (b.toNat : Int).toNat :: ·) := rfl
  rw [this, ih]; simp
theorem isub_bcells (l : List UInt8) (o n : Nat) (h : o + n = l.length) : isub (q4a l) o n = some (q4a (l.drop o)) := by
 unfold isub
 rw [if_pos (by rw [bcells_len]; omega)]
 unfold q4a
 rw [← List.map_drop, List.take_of_length_le (by simp; omega)]
theorem shr_byte (w j : Nat) (hj : j < 8) : IntKind.u8.wrap (Int.fdiv (w : Int) (2 ^ min (8 * j) 64)) = ((UInt8.ofNat (w / 256 ^ j)).toNat : Int) := by
 have e : (2 : Int) ^ min (8 * j) 64 = ((256 ^ j : Nat) : Int) := by
  rw [Nat.min_eq_left (by omega), Int.pow_mul]; simp
 rw [e, Int.fdiv_eq_ediv_of_nonneg _ (Int.natCast_nonneg _), ← Int.natCast_ediv, IntKind.wrap_u8]
 simp

section
variable {P : Program} {md : Md} {lk : Nat} {σ : Env} {H : Heap} {Q : Ex → Env → Heap → Prop}
def At (J : Env → Heap → Prop) (σ : Env) (H : Heap) [Tg J] : Prop := J σ H
def Join (J : Env → Heap → Prop) (Q : Ex → Env → Heap → Prop) : Ex → Env → Heap → Prop
 | .normal, σ, H => At J σ H
 | e, σ, H => Q e σ H
@[go_sem ↓] theorem Join_normal (J : Env → Heap → Prop) (σ : Env) (H : Heap) : Join J Q .normal σ H = At J σ H := rfl
@[go_sem ↓] theorem Join_ret (J : Env → Heap → Prop) (σ : Env) (H : Heap) : Join J Q .ret σ H = Q .ret σ H := rfl
@[go_sem ↓] theorem Join_exit (J : Env → Heap → Prop) (i : Nat) (σ : Env) (H : Heap) : Join J Q (.exit i) σ H = Q (.exit i) σ H := rfl
theorem r_join {a rest : Code} (J : Env → Heap → Prop) (h1 : Runs P md lk a σ H (Join J Q)) (h3 : ∀ σ H, J σ H → Runs P md lk rest σ H Q) : Runs P md lk a σ H (Then P md lk rest Q) := by
 refine h1.mono ?_
 intro e σ H h
 cases e with
 | normal => exact h3 σ H h
 | exit i => exact h
 | ret => exact h
theorem w0q {c : Bool} {A B rest : Code} {σ' : Env} {H' : Heap} (J : Env → Heap → Prop) (h1 : c = true → Runs P md lk A σ H (Join J Q)) (h2 : c = false → Runs P md lk B σ' H' (Join J Q)) (h3 : ∀ σ H, J σ H → Runs P md lk rest σ H Q) : gw (some c) (Runs P md lk A σ H (Then P md lk rest Q)) (Runs P md lk B σ' H' (Then P md lk rest Q)) :=
 gw_iff (fun h => r_join J (h1 h) h3) (fun h => r_join J (h2 h) h3)
end
end Gx
end
