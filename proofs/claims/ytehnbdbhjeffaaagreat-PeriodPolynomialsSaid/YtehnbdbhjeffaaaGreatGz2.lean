/- Lemmas for the row: plain facts, or contracts of functions. -/
import Derived.Test.YtehnbdbhjeffaaaGreatGz1
import GoSem.Op.String
set_option linter.all false
section
/- Natural numbers as words and as q0b: from words to q0b. -/
set_option autoImplicit false
namespace Gx

theorem wval_lt (ws : List Nat) (hl : ∀ w ∈ ws, w < B64) : wval ws < B64 ^ ws.length := by
 induction ws with
 | nil => simp [wval]
 | cons w ws ih =>
  have h1 := ih fun x hx => hl x (List.mem_cons_of_mem _ hx)
  have h2 := hl w List.mem_cons_self
  rw [wval, List.length_cons, Nat.pow_succ]
  have : B64 * (wval ws + 1) ≤ B64 * B64 ^ ws.length := Nat.mul_le_mul_left _ h1
  rw [Nat.mul_comm (B64 ^ ws.length)]
  rw [Nat.mul_add] at this
  omega
theorem wval_get (ws : List Nat) (hl : ∀ w ∈ ws, w < B64) (i : Nat) (h : i < ws.length) : ws[i] = wval ws / B64 ^ i % B64 := by
 induction ws generalizing i with
 | nil => simp at h
 | cons w ws ih =>
  have h2 := hl w List.mem_cons_self
  cases i with
  | zero =>
   simp only [List.getElem_cons_zero, wval, Nat.pow_zero, Nat.div_one]
   rw [Nat.add_mul_mod_self_left, Nat.mod_eq_of_lt h2]
  | succ i =>
   simp only [List.getElem_cons_succ]
   rw [ih (fun x hx => hl x (List.mem_cons_of_mem _ hx)) i (by simpa using h), wval, Nat.pow_succ, Nat.mul_comm (B64 ^ i), ← Nat.div_div_eq_div_mul, Nat.add_mul_div_left _ _ (by decide), Nat.div_eq_of_lt h2, Nat.zero_add]

def q7h (v M p : Nat) : List UInt8 := (List.range M).map fun x => if M ≤ x + p then UInt8.ofNat (v / 256 ^ (M - 1 - x)) else 0
theorem q8q (v M p : Nat) : (q7h v M p).length = M := by simp [q7h]
theorem bfill_zero (v M : Nat) : q7h v M 0 = List.replicate M 0 := by
 apply List.ext_getElem
 ·simp [q7h]
 ·intro i h1 h2
  simp only [q8q] at h1
  simp only [q7h, List.getElem_map, List.getElem_range, List.getElem_replicate, Nat.add_zero]
  rw [if_neg (by omega)]
theorem bfill_succ (v M p : Nat) (h : p < M) : q7h v M (p + 1) = (q7h v M p).set (M - 1 - p) (UInt8.ofNat (v / 256 ^ p)) := by
 apply List.ext_getElem
 ·simp [q7h]
 ·intro i h1 h2
  simp only [q8q] at h1
  rw [List.getElem_set]
  simp only [q7h, List.getElem_map, List.getElem_range]
  by_cases h3 : M - 1 - p = i
  ·rw [if_pos h3, if_pos (by omega), ← h3]
   congr 3; omega
  ·rw [if_neg h3]
   by_cases h4 : M ≤ i + p
   ·rw [if_pos (by omega), if_pos h4]
   ·rw [if_neg (by omega), if_neg h4]
theorem bval_bfill (v M : Nat) : bval (q7h v M M) = v % 256 ^ M := by
 induction M generalizing v with
 | zero => simp [q7h, bval, Nat.mod_one]
 | succ M ih =>
  have e : q7h v (M + 1) (M + 1) = q7h (v / 256) M M ++ [UInt8.ofNat v] := by
   unfold q7h
   rw [List.range_succ, List.map_append, List.map_cons, List.map_nil]
   congr 1
   ·apply List.map_congr_left
    intro x hx
    rw [List.mem_range] at hx
    rw [if_pos (by omega), if_pos (by omega), Nat.div_div_eq_div_mul, Nat.mul_comm, ← Nat.pow_succ]
    congr 3; omega
   ·rw [if_pos (by omega)]; simp
  rw [e, q8o, ih, Nat.pow_succ, Nat.mul_comm (256 ^ M), Nat.mod_mul]
  simp; omega
theorem bval_cons_zero (l : List UInt8) : bval (0 :: l) = bval l := by simp [bval]
theorem w3e (l : List UInt8) (h : ∀ x ∈ l.head?, x ≠ 0) : q0b (bval l) = l := by
 have key : ∀ n (l : List UInt8), l.length = n → (∀ x ∈ l.head?, x ≠ 0) → q0b (bval l) = l ∧ (l ≠ [] → bval l ≠ 0) := by
  intro n
  induction n with
  | zero =>
   intro l hn _
   have : l = [] := List.eq_nil_of_length_eq_zero hn
   subst this
   exact ⟨by rw [show bval [] = 0 from rfl, q1c], fun h => (h rfl).elim⟩
  | succ n ih =>
   intro l hn h
   obtain ⟨i, b, rfl⟩ : ∃ i b, l = i ++ [b] := by
    have hne : l ≠ [] := by intro h; subst h; simp at hn
    exact ⟨l.dropLast, l.getLast hne, (List.dropLast_concat_getLast hne).symm⟩
   have hb : b.toNat < 256 := b.toNat_lt
   have hne : bval (i ++ [b]) ≠ 0 := by
    rw [q8o]
    cases i with
    | nil =>
     have := h b (by simp)
     have hb0 : b.toNat ≠ 0 := fun hz => this (UInt8.toNat_inj.1 (by simpa using hz))
     omega
    | cons x i' =>
     have := (ih (x :: i') (by simpa using hn) (by
      intro y hy; exact h y (by simpa using hy))).2 (by simp)
     omega
   refine ⟨?_, fun _ => hne⟩
   rw [q5t hne, q8o, Nat.mul_comm, Nat.mul_add_div (by decide), Nat.mul_add_mod, Nat.div_eq_of_lt hb, Nat.add_zero, Nat.mod_eq_of_lt hb]
   rw [(ih i (by simpa using hn) (by
    intro y hy
    apply h y
    cases i with
    | nil => simp at hy
    | cons x i' => simpa using hy)).1]
   simp
 exact (key _ l rfl h).1
theorem w2d (n : Nat) : ∀ x ∈ (q0b n).head?, x ≠ 0 := by
 induction n using Nat.strongRecOn with
 | _ n ih =>
  by_cases h : n = 0
  ·subst h; rw [q1c]; simp
  ·rw [q5t h]
   intro x hx
   by_cases h2 : n / 256 = 0
   ·rw [h2, q1c] at hx
    simp at hx
    subst hx
    intro hz
    have := congrArg UInt8.toNat hz
    simp at this
    omega
   ·have := ih (n / 256) (Nat.div_lt_self (Nat.pos_of_ne_zero h) (by decide)) x
    rw [q5t h2] at this hx
    simp only [List.append_assoc] at hx
    apply this
    cases hb : q0b (n / 256 / 256) with
    | nil => rw [hb] at hx; simpa using hx
    | cons y ys => rw [hb] at hx; simpa using hx
theorem q1b (n : Nat) : q0b n = [] ↔ n = 0 := by
 constructor
 ·intro h; have := q1d n; rw [h] at this; exact this.symm
 ·rintro rfl; exact q1c
theorem q1f {a b : Nat} : q0b a = q0b b ↔ a = b := ⟨fun h => by rw [← q1d a, h, q1d], fun h => by rw [h]⟩
theorem bytes_len (n : Nat) (k : Nat) (h : n < 256 ^ k) : (q0b n).length ≤ k := by
 induction k generalizing n with
 | zero => have : n = 0 := by simpa using h
           subst this; rw [q1c]; simp
 | succ k ih =>
  by_cases h0 : n = 0
  ·subst h0; rw [q1c]; simp
  ·rw [q5t h0, List.length_append, List.length_singleton]
   have := ih (n / 256) (by rw [Nat.pow_succ] at h; exact Nat.div_lt_of_lt_mul (by rw [Nat.mul_comm]; exact h))
   omega
theorem digs_len (n : Nat) (k : Nat) (h : n < B64 ^ k) : (digs n).length ≤ k := by
 induction k generalizing n with
 | zero => have : n = 0 := by simpa using h
           subst this; rw [digs_zero]; simp
 | succ k ih =>
  by_cases h0 : n = 0
  ·subst h0; rw [digs_zero]; simp
  ·rw [digs_pos h0, List.length_cons]
   have := ih (n / B64) (by rw [Nat.pow_succ] at h; exact Nat.div_lt_of_lt_mul (by rw [Nat.mul_comm]; exact h))
   omega
theorem byte_of_word (v i j : Nat) (hj : j < 8) : UInt8.ofNat (v / B64 ^ i % B64 / 256 ^ j) = UInt8.ofNat (v / 256 ^ (8 * i + j)) := by
 apply UInt8.toNat_inj.1
 rw [UInt8.toNat_ofNat', UInt8.toNat_ofNat', Nat.pow_add, Nat.pow_mul, ← Nat.div_div_eq_div_mul, show 256 ^ 8 = B64 from rfl]
 generalize v / B64 ^ i = X
 have : j = 0 ∨ j = 1 ∨ j = 2 ∨ j = 3 ∨ j = 4 ∨ j = 5 ∨ j = 6 ∨ j = 7 := by omega
 simp only [B64]
 rcases this with rfl | rfl | rfl | rfl | rfl | rfl | rfl | rfl <;> simp only [Nat.reducePow, Nat.div_one] <;> omega
theorem take_get {ws : List Nat} {v k i : Nat} (h : ws.take k = digs v) (hi : i < k) (hw : i < ws.length) : ws[i] = v / B64 ^ i % B64 := by
 have h1 : i < (ws.take k).length := by rw [List.length_take]; omega
 have h2 : (ws.take k)[i] = ws[i] := List.getElem_take
 have h3 := wval_get (ws.take k) (by rw [h]; exact digs_lt v) i h1
 have h4 : wval (ws.take k) = v := by rw [h, wval_digs]
 rw [← h2, h3, h4]

theorem foldl_bval (l : List UInt8) (c : Nat) : l.foldl (fun a b => a * 256 + b.toNat) c = c * 256 ^ l.length + bval l := by
 induction l generalizing c with
 | nil => simp [bval]
 | cons b l ih =>
  have h : bval (b :: l) = b.toNat * 256 ^ l.length + bval l := by
   unfold bval; rw [List.foldl_cons, ih]; simp; rfl
  rw [List.foldl_cons, ih, h, List.length_cons, Nat.pow_succ]
  grind
theorem bval_cons (b : UInt8) (l : List UInt8) : bval (b :: l) = b.toNat * 256 ^ l.length + bval l := by
 unfold bval; rw [List.foldl_cons, foldl_bval]; simp; rfl
theorem q9v (x y : List UInt8) (h : x.length = y.length) : Go.Op.bytesLess x y = decide (bval x < bval y) := by
 induction x generalizing y with
 | nil =>
  cases y with
  | nil => rfl
  | cons b y => simp at h
 | cons a x ih =>
  cases y with
  | nil => simp at h
  | cons b y =>
   have h' : x.length = y.length := by simpa using h
   have hx := q5v x
   have hy := q5v y
   have e : Go.Op.bytesLess (a :: x) (b :: y) = (decide (a < b) || (a == b && Go.Op.bytesLess x y)) := rfl
   rw [e, ih y h', bval_cons, bval_cons, h']
   rw [h'] at hx
   apply Bool.eq_iff_iff.2
   simp only [Bool.or_eq_true, Bool.and_eq_true, decide_eq_true_eq, beq_iff_eq]
   rw [UInt8.lt_iff_toNat_lt, ← UInt8.toNat_inj]
   generalize 256 ^ y.length = M at *
   constructor
   ·rintro (h1 | ⟨h1, h2⟩)
    ·have : (a.toNat + 1) * M ≤ b.toNat * M := Nat.mul_le_mul_right _ h1
     rw [Nat.add_mul] at this
     omega
    ·rw [h1]; omega
   ·intro h1
    rcases Nat.lt_trichotomy a.toNat b.toNat with h2 | h2 | h2
    ·exact Or.inl h2
    ·rw [h2] at h1; exact Or.inr ⟨h2, by omega⟩
    ·have : (b.toNat + 1) * M ≤ a.toNat * M := Nat.mul_le_mul_right _ h2
     rw [Nat.add_mul] at this
     omega
theorem q6e {a b : Nat} (h : (q0b a).length < (q0b b).length) : a < b := by
 apply Nat.lt_of_not_le
 intro hab
 have h1 := q5v (q0b a)
 rw [q1d] at h1
 have := bytes_len b _ (Nat.lt_of_le_of_lt hab h1)
 omega
theorem digs_len_lt {a b : Nat} (h : (digs a).length < (digs b).length) : a < b := by
 apply Nat.lt_of_not_le
 intro hab
 have h1 := wval_lt (digs a) (digs_lt a)
 rw [wval_digs] at h1
 have := digs_len b _ (Nat.lt_of_le_of_lt hab h1)
 omega

def lowSum (x y i : Nat) : Nat := x % B64 ^ i + y % B64 ^ i
def addFill (x y m i : Nat) : List Nat := digsN m (lowSum x y i % B64 ^ i)
theorem addFill_zero (x y m : Nat) : addFill x y m 0 = List.replicate m 0 := by
 unfold addFill lowSum
 simp only [Nat.pow_zero, Nat.mod_one]
 induction m with
 | zero => rfl
 | succ m ih => rw [digsN, List.replicate_succ, Nat.zero_div, ih]; rfl
theorem digsN_put (m r i w : Nat) (hi : i < m) (hr : r < B64 ^ i) (hw : w < B64) : digsN m (r + w * B64 ^ i) = (digsN m r).set i w := by
 have h0 : r / B64 ^ i = 0 := Nat.div_eq_of_lt hr
 have := digsN_set m r i w hi (by rw [h0]; simpa using hw)
 rw [this, h0]; simp
theorem lowSum_succ (x y i : Nat) : lowSum x y (i + 1) = lowSum x y i % B64 ^ i + B64 ^ i * (x / B64 ^ i % B64 + y / B64 ^ i % B64 + lowSum x y i / B64 ^ i) := by
 have h : lowSum x y (i + 1) = lowSum x y i + B64 ^ i * (x / B64 ^ i % B64 + y / B64 ^ i % B64) := by
  unfold lowSum
  rw [Nat.mod_pow_succ, Nat.mod_pow_succ]
  grind
 rw [h]
 have := Nat.mod_add_div (lowSum x y i) (B64 ^ i)
 grind
theorem low_mod {r M t : Nat} (hr : r < M) : (r + M * t) % (M * B64) = r + (t % B64) * M ∧ (r + M * t) / (M * B64) = t / B64 := by
 have hM : 0 < M := by omega
 constructor
 ·rw [Nat.mod_mul, Nat.add_mul_mod_self_left, Nat.mod_eq_of_lt hr, Nat.add_mul_div_left _ _ hM, Nat.div_eq_of_lt hr, Nat.zero_add, Nat.mul_comm M]
 ·rw [← Nat.div_div_eq_div_mul, Nat.add_mul_div_left _ _ hM, Nat.div_eq_of_lt hr, Nat.zero_add]
theorem addFill_succ (x y m i : Nat) (hi : i < m) :
  addFill x y m (i + 1) = (addFill x y m i).set i ((x / B64 ^ i % B64 + y / B64 ^ i % B64 + lowSum x y i / B64 ^ i) % B64) ∧
  lowSum x y (i + 1) / B64 ^ (i + 1) = (x / B64 ^ i % B64 + y / B64 ^ i % B64 + lowSum x y i / B64 ^ i) / B64 := by
 have hp : 0 < B64 ^ i := Nat.pow_pos (by decide)
 have hr := Nat.mod_lt (lowSum x y i) hp
 obtain ⟨h1, h2⟩ := low_mod (t := x / B64 ^ i % B64 + y / B64 ^ i % B64 + lowSum x y i / B64 ^ i) hr
 rw [← lowSum_succ, ← Nat.pow_succ] at h1 h2
 refine ⟨?_, h2⟩
 unfold addFill
 rw [h1, digsN_put _ _ _ _ hi hr (Nat.mod_lt _ (by decide))]
theorem lowSum_carry (x y i : Nat) : lowSum x y i / B64 ^ i ≤ 1 := by
 have hp : 0 < B64 ^ i := Nat.pow_pos (by decide)
 have h1 := Nat.mod_lt x hp
 have h2 := Nat.mod_lt y hp
 unfold lowSum
 have : (x % B64 ^ i + y % B64 ^ i) / B64 ^ i < 2 := Nat.div_lt_of_lt_mul (by omega)
 omega
theorem addFill_last (x y n : Nat) (hx : x < B64 ^ n) (hy : y < B64 ^ n) : (addFill x y (n + 1) n).set n (lowSum x y n / B64 ^ n) = digsN (n + 1) (x + y) := by
 have hp : 0 < B64 ^ n := Nat.pow_pos (by decide)
 have h1 : lowSum x y n = x + y := by unfold lowSum; rw [Nat.mod_eq_of_lt hx, Nat.mod_eq_of_lt hy]
 have h2 := lowSum_carry x y n
 unfold addFill
 rw [← digsN_put _ _ _ _ (Nat.lt_succ_self n) (Nat.mod_lt _ hp) (Nat.lt_of_le_of_lt h2 (by decide)), Nat.mul_comm, Nat.mod_add_div, h1]
theorem lt_pow_digs (x : Nat) : x < B64 ^ (digs x).length := by
 have := wval_lt (digs x) (digs_lt x)
 rwa [wval_digs] at this
theorem digs_get (x i : Nat) (h : i < (digs x).length) : (digs x)[i] = x / B64 ^ i % B64 := by
 have := wval_get (digs x) (digs_lt x) i h
 rwa [wval_digs] at this
theorem high_zero (y i n : Nat) (h : (digs y).length ≤ i) : y / B64 ^ i % B64 = 0 := by
 rw [Nat.div_eq_of_lt (Nat.lt_of_lt_of_le (lt_pow_digs y) (Nat.pow_le_pow_right (by decide) h))]; rfl
theorem wval_digsN_of_lt {m n : Nat} (h : n < B64 ^ m) : wval (digsN m n) = n := by rw [wval_digsN, Nat.mod_eq_of_lt h]


def lowDiff (x y i : Nat) : Nat := (x % B64 ^ i + B64 ^ i - y % B64 ^ i) % B64 ^ i
def borrow (x y i : Nat) : Nat := if x % B64 ^ i < y % B64 ^ i then 1 else 0
def subFill (x y m i : Nat) : List Nat := digsN m (lowDiff x y i + x / B64 ^ i * B64 ^ i)
theorem subFill_zero (x y m : Nat) : subFill x y m 0 = digsN m x := by
 unfold subFill lowDiff
 simp only [Nat.pow_zero, Nat.mod_one, Nat.div_one, Nat.mul_one, Nat.zero_add]
theorem borrow_le (x y i : Nat) : borrow x y i ≤ 1 := by unfold borrow; split <;> omega
theorem low_eq (x y i : Nat) : x % B64 ^ i + borrow x y i * B64 ^ i = y % B64 ^ i + lowDiff x y i ∧ lowDiff x y i < B64 ^ i := by
 have hp : 0 < B64 ^ i := Nat.pow_pos (by decide)
 have h1 := Nat.mod_lt x hp
 have h2 := Nat.mod_lt y hp
 unfold borrow lowDiff
 generalize x % B64 ^ i = X at *
 generalize y % B64 ^ i = Y at *
 generalize B64 ^ i = M at *
 refine ⟨?_, Nat.mod_lt _ hp⟩
 split
 ·rw [Nat.mod_eq_of_lt (by omega)]; omega
 ·rw [show X + M - Y = X - Y + M by omega, Nat.add_mod_right, Nat.mod_eq_of_lt (by omega)]; omega
theorem digsN_replace (m r T i v w : Nat) (hi : i < m) (hr : r < B64 ^ i) (hv : v < B64) (hw : w < B64) : digsN m (r + w * B64 ^ i + T * B64 ^ (i + 1)) = (digsN m (r + v * B64 ^ i + T * B64 ^ (i + 1))).set i w := by
 have hp : 0 < B64 ^ i := Nat.pow_pos (by decide)
 have h0 : (r + T * B64 ^ (i + 1)) / B64 ^ i % B64 = 0 := by
  rw [Nat.pow_succ, ← Nat.mul_assoc, Nat.mul_right_comm, Nat.add_mul_div_right _ _ hp, Nat.div_eq_of_lt hr, Nat.zero_add, Nat.mul_mod_left]
 have h1 := digsN_set m (r + T * B64 ^ (i + 1)) i w hi (by rw [h0, Nat.zero_add]; exact hw)
 have h2 := digsN_set m (r + T * B64 ^ (i + 1)) i v hi (by rw [h0, Nat.zero_add]; exact hv)
 rw [h0, Nat.zero_add] at h1 h2
 rw [Nat.add_right_comm, h1, Nat.add_right_comm, h2, List.set_set]
theorem subFill_succ (x y m i : Nat) (hi : i < m) :
  subFill x y m (i + 1) = (subFill x y m i).set i ((x / B64 ^ i % B64 + B64 - y / B64 ^ i % B64 - borrow x y i) % B64) ∧
  borrow x y (i + 1) = if x / B64 ^ i % B64 < y / B64 ^ i % B64 + borrow x y i then 1 else 0 := by
 have hp : 0 < B64 ^ i := Nat.pow_pos (by decide)
 obtain ⟨h1, h2⟩ := low_eq x y i
 obtain ⟨h3, h4⟩ := low_eq x y (i + 1)
 have hx : x % B64 ^ (i + 1) = x % B64 ^ i + B64 ^ i * (x / B64 ^ i % B64) := Nat.mod_pow_succ
 have hy : y % B64 ^ (i + 1) = y % B64 ^ i + B64 ^ i * (y / B64 ^ i % B64) := Nat.mod_pow_succ
 have hb := borrow_le x y i
 have hxi : x / B64 ^ i % B64 < B64 := Nat.mod_lt _ (by decide)
 have hyi : y / B64 ^ i % B64 < B64 := Nat.mod_lt _ (by decide)
 have hxd : x / B64 ^ i = x / B64 ^ (i + 1) * B64 + x / B64 ^ i % B64 := by
  rw [Nat.pow_succ, ← Nat.div_div_eq_div_mul]
  have := Nat.div_add_mod (x / B64 ^ i) B64
  rw [Nat.mul_comm] at this; exact this.symm
 have hd : lowDiff x y (i + 1) = lowDiff x y i + (x / B64 ^ i % B64 + B64 - y / B64 ^ i % B64 - borrow x y i) % B64 * B64 ^ i := by
  have e : x % B64 ^ (i + 1) + B64 ^ (i + 1) - y % B64 ^ (i + 1) = lowDiff x y i + B64 ^ i * (x / B64 ^ i % B64 + B64 - y / B64 ^ i % B64 - borrow x y i) := by
   rw [hx, hy, Nat.pow_succ]
   generalize x / B64 ^ i % B64 = xi at *
   generalize y / B64 ^ i % B64 = yi at *
   generalize borrow x y i = c at *
   obtain ⟨d, hd⟩ : ∃ d, xi + B64 = yi + c + d := ⟨xi + B64 - (yi + c), by omega⟩
   have e1 : xi + B64 - yi - c = d := by omega
   rw [e1]
   have e2 : B64 ^ i * xi + B64 ^ i * B64 = B64 ^ i * yi + B64 ^ i * c + B64 ^ i * d := by
    rw [← Nat.mul_add, hd, Nat.mul_add, Nat.mul_add]
   rw [Nat.mul_comm c] at h1
   omega
  have : lowDiff x y (i + 1) = (x % B64 ^ (i + 1) + B64 ^ (i + 1) - y % B64 ^ (i + 1)) % B64 ^ (i + 1) := rfl
  rw [this, e, Nat.pow_succ]
  exact (low_mod h2).1
 refine ⟨?_, ?_⟩
 ·unfold subFill
  rw [hd]
  have e : x / B64 ^ i * B64 ^ i = x / B64 ^ i % B64 * B64 ^ i + x / B64 ^ (i + 1) * B64 ^ (i + 1) := by
   conv => lhs; rw [hxd]
   rw [Nat.pow_succ]; grind
  rw [e, ← Nat.add_assoc, digsN_replace m (lowDiff x y i) _ i _ _ hi h2 hxi (Nat.mod_lt _ (by decide))]
 ·have : borrow x y (i + 1) = if x % B64 ^ (i + 1) < y % B64 ^ (i + 1) then 1 else 0 := rfl
  rw [this, hx, hy]
  generalize x / B64 ^ i % B64 = xi at *
  generalize y / B64 ^ i % B64 = yi at *
  generalize borrow x y i = c at *
  have key : x % B64 ^ i + B64 ^ i * xi < y % B64 ^ i + B64 ^ i * yi ↔ xi < yi + c := by
   constructor
   ·intro h
    apply Nat.lt_of_not_le
    intro hle
    have := Nat.mul_le_mul_left (B64 ^ i) hle
    rw [Nat.mul_add, Nat.mul_comm _ c] at this
    omega
   ·intro h
    have := Nat.mul_le_mul_left (B64 ^ i) (Nat.succ_le_of_lt h)
    rw [Nat.succ_eq_add_one, Nat.mul_add, Nat.mul_add, Nat.mul_comm _ c] at this
    omega
  by_cases h : xi < yi + c
  ·rw [if_pos h, if_pos (key.2 h)]
  ·rw [if_neg h, if_neg (fun hh => h (key.1 hh))]
theorem subFill_last (x y n : Nat) (hx : x < B64 ^ n) (hxy : y ≤ x) : subFill x y n n = digsN n (x - y) := by
 have hp : 0 < B64 ^ n := Nat.pow_pos (by decide)
 unfold subFill lowDiff
 rw [Nat.mod_eq_of_lt hx, Nat.mod_eq_of_lt (Nat.lt_of_le_of_lt hxy hx), Nat.div_eq_of_lt hx, Nat.zero_mul, Nat.add_zero]
 rw [show x + B64 ^ n - y = x - y + B64 ^ n by omega, Nat.add_mod_right, Nat.mod_eq_of_lt (by omega)]
theorem digsN_digs (n : Nat) : digsN (digs n).length n = digs n := by
 induction n using Nat.strongRecOn with
 | _ n ih =>
  by_cases h : n = 0
  ·subst h; rw [digs_zero]; rfl
  ·rw [digs_pos h, List.length_cons, digsN, ih _ (Nat.div_lt_self (Nat.pos_of_ne_zero h) (by decide))]
theorem digs_len_bytes (n : Nat) : (digs n).length ≤ (q0b n).length := by
 apply digs_len
 have := q5v (q0b n)
 rw [q1d] at this
 exact Nat.lt_of_lt_of_le this (Nat.pow_le_pow_left (by decide) _)
theorem q9t {a b : Nat} (h : b ≤ a) : (q0b b).length ≤ (q0b a).length := by
 have h1 := q5v (q0b a)
 rw [q1d] at h1
 exact bytes_len b _ (Nat.lt_of_le_of_lt h h1)
theorem subFill_get (x y m i : Nat) (hi : i < m) (hl : i < (subFill x y m i).length) : (subFill x y m i)[i] = x / B64 ^ i % B64 := by
 have h := digsN_get m (lowDiff x y i + x / B64 ^ i * B64 ^ i) i hi
 have hp : 0 < B64 ^ i := Nat.pow_pos (by decide)
 rw [Nat.add_mul_div_right _ _ hp, Nat.div_eq_of_lt (low_eq x y i).2, Nat.zero_add] at h
 exact (List.getElem?_eq_some_iff.1 h).2

theorem digs_upd (m N k w : Nat) (hk : k < m) (hw : w < B64) : ∃ N', digsN m N' = (digsN m N).set k w ∧ N' + N / B64 ^ k % B64 * B64 ^ k = N + w * B64 ^ k ∧ N' / B64 ^ (k + 1) = N / B64 ^ (k + 1) := by
 have hp : 0 < B64 ^ k := Nat.pow_pos (by decide)
 have hr := Nat.mod_lt N hp
 have hv : N / B64 ^ k % B64 < B64 := Nat.mod_lt _ (by decide)
 have e1 : N = N % B64 ^ k + N / B64 ^ k % B64 * B64 ^ k + N / B64 ^ (k + 1) * B64 ^ (k + 1) := by
  have h1 := Nat.mod_add_div N (B64 ^ k)
  have h2 := Nat.mod_add_div (N / B64 ^ k) B64
  rw [Nat.pow_succ, ← Nat.div_div_eq_div_mul]
  generalize N / B64 ^ k / B64 = T at *
  generalize N / B64 ^ k % B64 = z at *
  rw [← h2] at h1
  grind
 refine ⟨N % B64 ^ k + w * B64 ^ k + N / B64 ^ (k + 1) * B64 ^ (k + 1), ?_, ?_, ?_⟩
 ·have := digsN_replace m (N % B64 ^ k) (N / B64 ^ (k + 1)) k (N / B64 ^ k % B64) w hk hr hv hw
  rw [← e1] at this; exact this
 ·omega
 ·have hp1 : 0 < B64 ^ (k + 1) := Nat.pow_pos (by decide)
  rw [Nat.add_mul_div_right _ _ hp1]
  have : N % B64 ^ k + w * B64 ^ k < B64 ^ (k + 1) := by
   have h3 : (w + 1) * B64 ^ k ≤ B64 * B64 ^ k := Nat.mul_le_mul_right _ hw
   rw [Nat.pow_succ, Nat.mul_comm (B64 ^ k) B64]
   rw [Nat.add_mul] at h3; omega
  rw [Nat.div_eq_of_lt this, Nat.zero_add]

def Row (x y i j : Nat) (N c : Nat) : Prop :=
 N + c * B64 ^ (i + j) = x % B64 ^ i * y + x / B64 ^ i % B64 * B64 ^ i * (y % B64 ^ j) ∧ N / B64 ^ (i + j) = x % B64 ^ i * y / B64 ^ (i + j) ∧ c < B64
theorem row_zero (x y i : Nat) : Row x y i 0 (x % B64 ^ i * y) 0 := by
 unfold Row; simp [Nat.mod_one]
theorem mul_add_lt {a b c d : Nat} (ha : a < B64) (hb : b < B64) (hc : c < B64) (hd : d < B64) : a * b + c + d < B64 * B64 := by
 have : a * b ≤ 18446744073709551615 * 18446744073709551615 := Nat.mul_le_mul (by simp only [B64] at ha; omega) (by simp only [B64] at hb; omega)
 simp only [B64] at *; omega
theorem row_step (x y m i j N c : Nat) (h : Row x y i j N c) (hm : i + j < m) :
  ∃ N', digsN m N' = (digsN m N).set (i + j) ((x / B64 ^ i % B64 * (y / B64 ^ j % B64) + N / B64 ^ (i + j) % B64 + c) % B64) ∧ Row x y i (j + 1) N' ((x / B64 ^ i % B64 * (y / B64 ^ j % B64) + N / B64 ^ (i + j) % B64 + c) / B64) := by
 obtain ⟨h1, h2, h3⟩ := h
 have hxi : x / B64 ^ i % B64 < B64 := Nat.mod_lt _ (by decide)
 have hyj : y / B64 ^ j % B64 < B64 := Nat.mod_lt _ (by decide)
 have hz : N / B64 ^ (i + j) % B64 < B64 := Nat.mod_lt _ (by decide)
 have ht := mul_add_lt hxi hyj hz h3
 obtain ⟨N', n1, n2, n3⟩ := digs_upd m N (i + j) ((x / B64 ^ i % B64 * (y / B64 ^ j % B64) + N / B64 ^ (i + j) % B64 + c) % B64) hm (Nat.mod_lt _ (by decide))
 refine ⟨N', n1, ?_, ?_, Nat.div_lt_of_lt_mul ht⟩
 ·have e := Nat.mod_add_div (x / B64 ^ i % B64 * (y / B64 ^ j % B64) + N / B64 ^ (i + j) % B64 + c) B64
  have ey : y % B64 ^ (j + 1) = y % B64 ^ j + B64 ^ j * (y / B64 ^ j % B64) := Nat.mod_pow_succ
  rw [ey]
  have ep : B64 ^ (i + (j + 1)) = B64 * B64 ^ (i + j) := by rw [← Nat.add_assoc, Nat.pow_succ, Nat.mul_comm]
  have eq : B64 ^ (i + j) = B64 ^ i * B64 ^ j := Nat.pow_add _ _ _
  rw [ep]
  generalize hzz : N / B64 ^ (i + j) % B64 = z at *
  generalize htt : x / B64 ^ i % B64 * (y / B64 ^ j % B64) + z + c = t at *
  have e2 : N' + z * B64 ^ (i + j) + t / B64 * (B64 * B64 ^ (i + j)) = N + t * B64 ^ (i + j) := by
   rw [n2]
   conv => rhs; rw [← e]
   grind
  have e4 : x / B64 ^ i % B64 * B64 ^ i * (y % B64 ^ j + B64 ^ j * (y / B64 ^ j % B64)) = x / B64 ^ i % B64 * B64 ^ i * (y % B64 ^ j) + x / B64 ^ i % B64 * (y / B64 ^ j % B64) * B64 ^ (i + j) := by
   rw [eq]; grind
  rw [e4]
  rw [← htt] at e2 ⊢
  rw [Nat.add_mul, Nat.add_mul] at e2
  omega
 ·rw [← Nat.add_assoc, n3, Nat.pow_succ, ← Nat.div_div_eq_div_mul, h2, Nat.div_div_eq_div_mul]
theorem row_last (x y m i N c n : Nat) (hy : y < B64 ^ n) (h : Row x y i n N c) (hm : i + n < m) :
  (digsN m N).set (i + n) c = digsN m (x % B64 ^ (i + 1) * y) := by
 obtain ⟨h1, h2, h3⟩ := h
 have hp : 0 < B64 ^ i := Nat.pow_pos (by decide)
 have hlt : x % B64 ^ i * y < B64 ^ (i + n) := by
  rw [Nat.pow_add]
  exact Nat.mul_lt_mul'' (Nat.mod_lt _ hp) hy
 rw [Nat.div_eq_of_lt hlt] at h2
 have hN : N < B64 ^ (i + n) := by
  have hp2 : 0 < B64 ^ (i + n) := Nat.pow_pos (by decide)
  exact (Nat.div_eq_zero_iff_lt hp2).1 h2
 rw [← digsN_put m N (i + n) c hm hN h3, h1, Nat.mod_eq_of_lt hy, Nat.mod_pow_succ]
 congr 1; grind
theorem digsN_zero (m : Nat) : digsN m 0 = List.replicate m 0 := by
 induction m with
 | zero => rfl
 | succ m ih => rw [digsN, List.replicate_succ, Nat.zero_div, ih]; rfl

structure Guess (b u d y1 y0 q r : Nat) : Prop where
 eq : q * y1 + r = u
 ge : (u * b + d) / (y1 * b + y0) ≤ q
 le : q ≤ b + 1
theorem Guess.fail {b u d y1 y0 q r : Nat} (h : Guess b u d y1 y0 q r) (hy : 0 < y1 * b + y0) (ht : q * y0 ≤ b * r + d) : q = (u * b + d) / (y1 * b + y0) := by
 apply Nat.le_antisymm _ h.ge
 rw [Nat.le_div_iff_mul_le hy, ← h.eq]
 have : q * (y1 * b + y0) = q * y1 * b + q * y0 := by grind
 have h2 : (q * y1 + r) * b = q * y1 * b + b * r := by grind
 omega
theorem Guess.big {b u d y1 y0 q r : Nat} (h : Guess b u d y1 y0 q r) (hy : 0 < y1 * b + y0) (h0 : y0 < b) (hq : q ≤ b) (hr : b ≤ r) : q = (u * b + d) / (y1 * b + y0) := by
 refine h.fail hy ?_
 have h1 : q * y0 ≤ b * b := Nat.mul_le_mul hq (Nat.le_of_lt h0)
 have h2 : b * b ≤ b * r := Nat.mul_le_mul_left _ hr
 omega
theorem quo_lt {b u d y : Nat} (hu : u < y) (hd : d < b) : (u * b + d) / y < b := by
 apply Nat.div_lt_of_lt_mul
 have : (u + 1) * b ≤ y * b := Nat.mul_le_mul_right _ hu
 rw [Nat.add_mul] at this
 omega
theorem Guess.dec {b u d y1 y0 q r : Nat} (h : Guess b u d y1 y0 q r) (hy : 0 < y1 * b + y0) (hu : u < y1 * b + y0) (hd : d < b) (ht : b ≤ q ∨ b * r + d < q * y0) : 0 < q ∧ Guess b u d y1 y0 (q - 1) (r + y1) := by
 have hQ : (u * b + d) / (y1 * b + y0) < q := by
  rcases ht with ht | ht
  ·exact Nat.lt_of_lt_of_le (quo_lt hu hd) ht
  ·rw [Nat.div_lt_iff_lt_mul hy, ← h.eq]
   have : q * (y1 * b + y0) = q * y1 * b + q * y0 := by grind
   have h2 : (q * y1 + r) * b = q * y1 * b + b * r := by grind
   omega
 have hq : 0 < q := Nat.lt_of_le_of_lt (Nat.zero_le _) hQ
 refine ⟨hq, ?_, Nat.le_sub_one_of_lt hQ, ?_⟩
 ·have := h.eq
  have e : q * y1 = (q - 1) * y1 + y1 := by
   obtain ⟨k, rfl⟩ : ∃ k, q = k + 1 := ⟨q - 1, by omega⟩
   rw [Nat.add_sub_cancel, Nat.add_mul, Nat.one_mul]
  omega
 ·have := h.le; omega
theorem Guess.first {b u d y1 y0 : Nat} (h1 : 0 < y1) (hb : b ≤ 2 * y1) (hd : d < b) (h0 : y0 < b) (hu : u < y1 * b + y0) : Guess b u d y1 y0 (u / y1) (u % y1) := by
 refine ⟨by rw [Nat.mul_comm]; exact Nat.div_add_mod u y1, ?_, ?_⟩
 ·have hbp : 0 < b := by omega
  have e1 : (u * b + d) / (y1 * b + y0) ≤ (u * b + d) / (y1 * b) := Nat.div_le_div_left (Nat.le_add_right _ _) (Nat.mul_pos h1 hbp)
  have e2 : (u * b + d) / (y1 * b) = u / y1 := by
   rw [Nat.mul_comm y1 b, ← Nat.div_div_eq_div_mul, Nat.mul_comm u b, Nat.mul_add_div hbp, Nat.div_eq_of_lt hd, Nat.add_zero]
  omega
 ·have : u / y1 < b + 2 := by
   rw [Nat.div_lt_iff_lt_mul h1, Nat.add_mul, Nat.mul_comm b y1]
   omega
  omega
theorem w3c (m b c y : Nat) : m / y * b + (m % y * b + c) / y = (m * b + c) / y ∧ (m % y * b + c) % y = (m * b + c) % y := by
 have e := Nat.mod_add_div m y
 by_cases hy : y = 0
 ·subst hy; simp [Nat.mod_zero]
 have hy : 0 < y := Nat.pos_of_ne_zero hy
 have e2 : m * b + c = m % y * b + c + y * (m / y * b) := by
  conv => lhs; rw [← e]
  grind
 constructor
 ·rw [e2, Nat.add_mul_div_left _ _ hy, Nat.add_comm]
 ·rw [e2, Nat.add_mul_mod_self_left]
theorem rest_mod (m y q : Nat) (hq : q = m / y) (hy : y < 18446744073709551616) (hy0 : 0 < y) (m' p' : Nat) (hm : m' % 18446744073709551616 = m % 18446744073709551616) (hp : p' % 18446744073709551616 = q * y % 18446744073709551616) (hp' : p' < 18446744073709551616) : (m' + 18446744073709551616 - p') % 18446744073709551616 = m % y := by
 have e := Nat.mod_add_div m y
 rw [← hq, Nat.mul_comm y q] at e
 have hr := Nat.mod_lt m hy0
 generalize q * y = z at *
 generalize m % y = r at *
 omega
theorem shift_two (u l y s : Nat) (hu : u < y) (hl : l < B64) (hs : s ≤ 63) :
  (u * 2 ^ s ||| l / 2 ^ (64 - s)) = u * 2 ^ s + l / 2 ^ (64 - s) ∧ u * 2 ^ s + l / 2 ^ (64 - s) < y * 2 ^ s ∧ (u * 2 ^ s + l / 2 ^ (64 - s)) * B64 + l * 2 ^ s % B64 = (u * B64 + l) * 2 ^ s := by
 have hp : 0 < 2 ^ s := Nat.pow_pos (by decide)
 have hB : B64 = 2 ^ (64 - s) * 2 ^ s := by rw [← Nat.pow_add, show 64 - s + s = 64 by omega]
 have h1 : l / 2 ^ (64 - s) < 2 ^ s := by
  apply Nat.div_lt_of_lt_mul; rw [← hB]; exact hl
 refine ⟨?_, ?_, ?_⟩
 ·rw [Nat.mul_comm u]; exact (Nat.two_pow_add_eq_or_of_lt h1 u).symm
 ·have : (u + 1) * 2 ^ s ≤ y * 2 ^ s := Nat.mul_le_mul_right _ hu
  rw [Nat.add_mul] at this
  omega
 ·have e1 : l * 2 ^ s / B64 = l / 2 ^ (64 - s) := by rw [hB, Nat.mul_div_mul_right _ _ hp]
  have e2 := Nat.mod_add_div (l * 2 ^ s) B64
  rw [e1] at e2
  rw [Nat.add_mul, Nat.add_mul, ← e2]
  generalize l / 2 ^ (64 - s) = w at *
  grind
theorem two_halves (U L1 L0 L : Nat) (h : L = L1 * 4294967296 + L0) : (U * 4294967296 + L1) * 4294967296 + L0 = U * B64 + L := by
 simp only [B64]; omega

def q5i (x s m i : Nat) : List Nat := digsN m (x % B64 ^ i * 2 ^ s)
theorem sh_step (x s m i : Nat) (hs : s ≤ 63) (hi : i + 1 < m) :
  (x % B64 ^ i * 2 ^ s / B64 ^ i % B64 ||| x / B64 ^ i % B64 * 2 ^ s % B64) < B64 ∧
  q5i x s m (i + 1) = ((q5i x s m i).set i (x % B64 ^ i * 2 ^ s / B64 ^ i % B64 ||| x / B64 ^ i % B64 * 2 ^ s % B64)).set (i + 1) (x / B64 ^ i % B64 / 2 ^ (64 - s)) ∧
  (s = 0 → q5i x s m (i + 1) = (q5i x s m i).set i (x % B64 ^ i * 2 ^ s / B64 ^ i % B64 ||| x / B64 ^ i % B64 * 2 ^ s % B64)) := by
 have hp : 0 < B64 ^ i := Nat.pow_pos (by decide)
 have hps : 0 < 2 ^ s := Nat.pow_pos (by decide)
 have hB : B64 = 2 ^ (64 - s) * 2 ^ s := by rw [← Nat.pow_add, show 64 - s + s = 64 by omega]
 have hxi : x / B64 ^ i % B64 < B64 := Nat.mod_lt _ (by decide)
 have hz : x % B64 ^ i * 2 ^ s / B64 ^ i < 2 ^ s := by
  rw [Nat.div_lt_iff_lt_mul hp, Nat.mul_comm]
  exact Nat.mul_lt_mul_of_pos_left (Nat.mod_lt _ hp) hps
 have hsB : 2 ^ s ≤ B64 := by rw [hB]; exact Nat.le_mul_of_pos_left _ (Nat.pow_pos (by decide))
 have hzm : x % B64 ^ i * 2 ^ s / B64 ^ i % B64 = x % B64 ^ i * 2 ^ s / B64 ^ i := Nat.mod_eq_of_lt (by omega)
 have hsucc : x % B64 ^ (i + 1) = x % B64 ^ i + B64 ^ i * (x / B64 ^ i % B64) := Nat.mod_pow_succ
 have hw : x / B64 ^ i % B64 * 2 ^ s % B64 = 2 ^ s * (x / B64 ^ i % B64 % 2 ^ (64 - s)) := by
  conv => lhs; rw [hB]
  rw [Nat.mul_mod_mul_right, Nat.mul_comm]
  conv => rhs; rw [hB]
 have hv : x / B64 ^ i % B64 * 2 ^ s / B64 = x / B64 ^ i % B64 / 2 ^ (64 - s) := by
  conv => lhs; rw [hB]
  rw [Nat.mul_div_mul_right _ _ hps]
  conv => rhs; rw [hB]
 have hmd := Nat.mod_add_div (x / B64 ^ i % B64 * 2 ^ s) B64
 rw [hv] at hmd
 have hkl : x / B64 ^ i % B64 % 2 ^ (64 - s) < 2 ^ (64 - s) := Nat.mod_lt _ (Nat.pow_pos (by decide))
 have hor : (x % B64 ^ i * 2 ^ s / B64 ^ i % B64 ||| x / B64 ^ i % B64 * 2 ^ s % B64) = x % B64 ^ i * 2 ^ s / B64 ^ i % B64 + x / B64 ^ i % B64 * 2 ^ s % B64 := by
  rw [hzm, hw, Nat.or_comm, ← Nat.two_pow_add_eq_or_of_lt hz, Nat.add_comm]
 have hsum : x % B64 ^ i * 2 ^ s / B64 ^ i % B64 + x / B64 ^ i % B64 * 2 ^ s % B64 < B64 := by
  rw [hzm, hw]
  have h1 : 2 ^ s * (x / B64 ^ i % B64 % 2 ^ (64 - s) + 1) ≤ 2 ^ s * 2 ^ (64 - s) := Nat.mul_le_mul_left _ hkl
  have h2 : 2 ^ s * 2 ^ (64 - s) = B64 := by rw [hB, Nat.mul_comm]
  rw [h2, Nat.mul_add, Nat.mul_one] at h1
  omega
 rw [hor]
 refine ⟨hsum, ?_, ?_⟩
 ·have h1 := digsN_set m (x % B64 ^ i * 2 ^ s) i (x / B64 ^ i % B64 * 2 ^ s % B64) (by omega) hsum
  have hlt : x % B64 ^ i * 2 ^ s + x / B64 ^ i % B64 * 2 ^ s % B64 * B64 ^ i < B64 ^ (i + 1) := by
   rw [Nat.pow_succ, Nat.mul_comm (B64 ^ i) B64, ← Nat.div_lt_iff_lt_mul hp, Nat.add_mul_div_right _ _ hp]
   rw [hzm] at hsum; exact hsum
  have hvB : x / B64 ^ i % B64 / 2 ^ (64 - s) < B64 := Nat.lt_of_le_of_lt (Nat.div_le_self _ _) hxi
  have h2 := digsN_put m _ (i + 1) (x / B64 ^ i % B64 / 2 ^ (64 - s)) hi hlt hvB
  unfold q5i
  rw [← h1, ← h2]
  congr 1
  rw [hsucc, Nat.add_mul, Nat.pow_succ, Nat.mul_assoc (B64 ^ i)]
  conv => lhs; rw [← hmd]
  generalize x / B64 ^ i % B64 * 2 ^ s % B64 = a
  generalize x / B64 ^ i % B64 / 2 ^ (64 - s) = b
  grind
 ·intro h0
  have h1 := digsN_set m (x % B64 ^ i * 2 ^ s) i (x / B64 ^ i % B64 * 2 ^ s % B64) (by omega) hsum
  unfold q5i
  rw [← h1]
  congr 1
  subst h0
  rw [hsucc]
  simp only [Nat.pow_zero, Nat.mul_one, Nat.mod_mod]
  rw [Nat.mul_comm]

theorem guess_lt {b Q u d y1 y0 q r : Nat} (hQ : Q * (y1 * b + y0) ≤ u * b + d) (he : q * y1 + r = u) (ht : b * r + d < q * y0) : Q < q := by
 apply Nat.lt_of_not_le
 intro h
 have h1 : q * (y1 * b + y0) ≤ Q * (y1 * b + y0) := Nat.mul_le_mul_right _ h
 have h2 : q * (y1 * b + y0) = q * y1 * b + q * y0 := by grind
 have h3 : u * b = q * y1 * b + b * r := by rw [← he]; grind
 omega
theorem guess_le {b u d y1 y0 q r : Nat} (he : q * y1 + r = u) (ht : q * y0 ≤ b * r + d) : q * (y1 * b + y0) ≤ u * b + d := by
 have h2 : q * (y1 * b + y0) = q * y1 * b + q * y0 := by grind
 have h3 : u * b = q * y1 * b + b * r := by rw [← he]; grind
 omega
theorem guess_big {b d y0 q r : Nat} (h0 : y0 < b) (hq : q < b) (hr : b ≤ r) : q * y0 ≤ b * r + d := by
 have h1 : q * y0 ≤ b * b := Nat.mul_le_mul (Nat.le_of_lt hq) (Nat.le_of_lt h0)
 have h2 : b * b ≤ b * r := Nat.mul_le_mul_left _ hr
 omega
theorem est_le (U V k : Nat) : U / V * (V / B64 ^ k) ≤ U / B64 ^ k := by
 rw [Nat.le_div_iff_mul_le (Nat.pow_pos (by decide)), Nat.mul_assoc]
 exact Nat.le_trans (Nat.mul_le_mul_left _ (Nat.div_mul_le_self V _)) (Nat.div_mul_le_self U V)
theorem est_hi (U V k q : Nat) (hq : q < B64) (hV : B64 ^ (k + 1) ≤ V) (h : q * (V / B64 ^ k) ≤ U / B64 ^ k) : q ≤ U / V + 1 := by
 have hp : 0 < B64 ^ k := Nat.pow_pos (by decide)
 have hVp : 0 < V := Nat.lt_of_lt_of_le (Nat.pow_pos (by decide)) hV
 have h1 : q * (V / B64 ^ k) * B64 ^ k ≤ U := (Nat.le_div_iff_mul_le hp).1 h
 have h2 := Nat.mod_add_div V (B64 ^ k)
 have h3 : V % B64 ^ k < B64 ^ k := Nat.mod_lt _ hp
 have h4 : q * V ≤ q * (V / B64 ^ k) * B64 ^ k + q * B64 ^ k := by
  conv => lhs; rw [← h2]
  have : q * (V % B64 ^ k) ≤ q * B64 ^ k := Nat.mul_le_mul_left _ (Nat.le_of_lt h3)
  have e : q * (V % B64 ^ k + B64 ^ k * (V / B64 ^ k)) = q * (V % B64 ^ k) + q * (V / B64 ^ k) * B64 ^ k := by grind
  omega
 have h5 : q * B64 ^ k < V := by
  refine Nat.lt_of_lt_of_le ?_ hV
  rw [Nat.pow_succ, Nat.mul_comm (B64 ^ k)]
  exact Nat.mul_lt_mul_of_pos_right hq hp
 have h6 : q * V < U + V := by omega
 cases q with
 | zero => exact Nat.zero_le _
 | succ q =>
  rw [Nat.add_mul, Nat.one_mul] at h6
  have : q ≤ U / V := (Nat.le_div_iff_mul_le hVp).2 (by omega)
  omega

def SubMul (N q V o i M c e : Nat) : Prop := M + q * (V % B64 ^ i) * B64 ^ o = N + (c + e) * B64 ^ (o + i) ∧ M / B64 ^ (o + i) = N / B64 ^ (o + i) ∧ c < B64 ∧ e ≤ 1
theorem subMul_zero (N q V o : Nat) : SubMul N q V o 0 N 0 0 := by
 unfold SubMul; simp [Nat.mod_one]
theorem borrow_eq {z l e : Nat} (hz : z < B64) (hl : l < B64) (he : e ≤ 1) : (z + B64 - l - e) % B64 + l + e = z + B64 * (if z < l + e then 1 else 0) := by
 simp only [B64] at *
 split <;> omega
theorem subMul_step (m N q V o i M c e : Nat) (hm : o + i < m) (hq : q < B64) (h : SubMul N q V o i M c e) :
  ∃ M', digsN m M' = (digsN m M).set (o + i) ((M / B64 ^ (o + i) % B64 + B64 - (q * (V / B64 ^ i % B64) + c) % B64 - e) % B64) ∧ SubMul N q V o (i + 1) M' ((q * (V / B64 ^ i % B64) + c) / B64) (if M / B64 ^ (o + i) % B64 < (q * (V / B64 ^ i % B64) + c) % B64 + e then 1 else 0) := by
 obtain ⟨h1, h2, h3, h4⟩ := h
 have hz : M / B64 ^ (o + i) % B64 < B64 := Nat.mod_lt _ (by decide)
 have hvi : V / B64 ^ i % B64 < B64 := Nat.mod_lt _ (by decide)
 have ht := mul_add_lt hq hvi h3 (show 0 < B64 by decide)
 have hb := borrow_eq hz (Nat.mod_lt (q * (V / B64 ^ i % B64) + c) (show 0 < B64 by decide)) h4
 obtain ⟨M', n1, n2, n3⟩ := digs_upd m M (o + i) ((M / B64 ^ (o + i) % B64 + B64 - (q * (V / B64 ^ i % B64) + c) % B64 - e) % B64) hm (Nat.mod_lt _ (by decide))
 refine ⟨M', n1, ?_, ?_, Nat.div_lt_of_lt_mul (by simpa using ht), by split <;> omega⟩
 ·have et := Nat.mod_add_div (q * (V / B64 ^ i % B64) + c) B64
  have ev : V % B64 ^ (i + 1) = V % B64 ^ i + B64 ^ i * (V / B64 ^ i % B64) := Nat.mod_pow_succ
  rw [ev]
  have ep : B64 ^ (o + (i + 1)) = B64 * B64 ^ (o + i) := by rw [← Nat.add_assoc, Nat.pow_succ, Nat.mul_comm]
  have eq : B64 ^ (o + i) = B64 ^ i * B64 ^ o := by rw [Nat.add_comm, Nat.pow_add]
  rw [ep]
  generalize (M / B64 ^ (o + i) % B64 + B64 - (q * (V / B64 ^ i % B64) + c) % B64 - e) % B64 = w at *
  generalize (if M / B64 ^ (o + i) % B64 < (q * (V / B64 ^ i % B64) + c) % B64 + e then 1 else 0) = e' at *
  generalize M / B64 ^ (o + i) % B64 = z at *
  generalize htl : (q * (V / B64 ^ i % B64) + c) % B64 = l at *
  generalize htc : (q * (V / B64 ^ i % B64) + c) / B64 = c' at *
  have e4 : q * (V % B64 ^ i + B64 ^ i * (V / B64 ^ i % B64)) * B64 ^ o = q * (V % B64 ^ i) * B64 ^ o + q * (V / B64 ^ i % B64) * B64 ^ (o + i) := by
   rw [eq]; grind
  rw [e4]
  have e5 : w * B64 ^ (o + i) + l * B64 ^ (o + i) + e * B64 ^ (o + i) = z * B64 ^ (o + i) + e' * (B64 * B64 ^ (o + i)) := by
   have := congrArg (· * B64 ^ (o + i)) hb
   simp only [Nat.add_mul] at this
   rw [this]; grind
  have e6 : l * B64 ^ (o + i) + c' * (B64 * B64 ^ (o + i)) = q * (V / B64 ^ i % B64) * B64 ^ (o + i) + c * B64 ^ (o + i) := by
   have := congrArg (· * B64 ^ (o + i)) et
   simp only [Nat.add_mul] at this
   rw [← this]; grind
  rw [Nat.add_mul] at h1 ⊢
  omega
 ·rw [← Nat.add_assoc, n3, Nat.pow_succ, ← Nat.div_div_eq_div_mul, h2, Nat.div_div_eq_div_mul]
theorem subMul_last (m N q V o n M c e : Nat) (hm : o + n < m) (hV : V < B64 ^ n) (h : SubMul N q V o n M c e) :
  ∃ M', digsN m M' = (digsN m M).set (o + n) ((M / B64 ^ (o + n) % B64 + B64 - c - e) % B64) ∧ M' + q * V * B64 ^ o = N + (if M / B64 ^ (o + n) % B64 < c + e then 1 else 0) * B64 ^ (o + n + 1) ∧ M' / B64 ^ (o + n + 1) = N / B64 ^ (o + n + 1) := by
 obtain ⟨h1, h2, h3, h4⟩ := h
 have hz : M / B64 ^ (o + n) % B64 < B64 := Nat.mod_lt _ (by decide)
 have hb := borrow_eq hz h3 h4
 obtain ⟨M', n1, n2, n3⟩ := digs_upd m M (o + n) ((M / B64 ^ (o + n) % B64 + B64 - c - e) % B64) hm (Nat.mod_lt _ (by decide))
 refine ⟨M', n1, ?_, ?_⟩
 ·rw [Nat.mod_eq_of_lt hV] at h1
  rw [Nat.pow_succ]
  generalize (M / B64 ^ (o + n) % B64 + B64 - c - e) % B64 = w at *
  generalize (if M / B64 ^ (o + n) % B64 < c + e then 1 else 0) = e' at *
  generalize M / B64 ^ (o + n) % B64 = z at *
  have e5 : w * B64 ^ (o + n) + c * B64 ^ (o + n) + e * B64 ^ (o + n) = z * B64 ^ (o + n) + e' * (B64 ^ (o + n) * B64) := by
   have := congrArg (· * B64 ^ (o + n)) hb
   simp only [Nat.add_mul] at this
   rw [this]; grind
  rw [Nat.add_mul] at h1
  omega
 ·rw [n3, Nat.pow_succ, ← Nat.div_div_eq_div_mul, h2, Nat.div_div_eq_div_mul]

def w3i (N V o i M c : Nat) : Prop := M + c * B64 ^ (o + i) = N + V % B64 ^ i * B64 ^ o ∧ M / B64 ^ (o + i) = N / B64 ^ (o + i) ∧ c ≤ 1
theorem addBack_zero (N V o : Nat) : w3i N V o 0 N 0 := by
 unfold w3i; simp [Nat.mod_one]
theorem addBack_step (m N V o i M c : Nat) (hm : o + i < m) (h : w3i N V o i M c) :
  ∃ M', digsN m M' = (digsN m M).set (o + i) ((M / B64 ^ (o + i) % B64 + V / B64 ^ i % B64 + c) % B64) ∧ w3i N V o (i + 1) M' ((M / B64 ^ (o + i) % B64 + V / B64 ^ i % B64 + c) / B64) := by
 obtain ⟨h1, h2, h3⟩ := h
 have hz : M / B64 ^ (o + i) % B64 < B64 := Nat.mod_lt _ (by decide)
 have hvi : V / B64 ^ i % B64 < B64 := Nat.mod_lt _ (by decide)
 obtain ⟨M', n1, n2, n3⟩ := digs_upd m M (o + i) ((M / B64 ^ (o + i) % B64 + V / B64 ^ i % B64 + c) % B64) hm (Nat.mod_lt _ (by decide))
 refine ⟨M', n1, ?_, ?_, ?_⟩
 ·have et := Nat.mod_add_div (M / B64 ^ (o + i) % B64 + V / B64 ^ i % B64 + c) B64
  have ev : V % B64 ^ (i + 1) = V % B64 ^ i + B64 ^ i * (V / B64 ^ i % B64) := Nat.mod_pow_succ
  rw [ev]
  have ep : B64 ^ (o + (i + 1)) = B64 * B64 ^ (o + i) := by rw [← Nat.add_assoc, Nat.pow_succ, Nat.mul_comm]
  have eq : B64 ^ (o + i) = B64 ^ i * B64 ^ o := by rw [Nat.add_comm, Nat.pow_add]
  rw [ep]
  generalize (M / B64 ^ (o + i) % B64 + V / B64 ^ i % B64 + c) % B64 = w at *
  generalize (M / B64 ^ (o + i) % B64 + V / B64 ^ i % B64 + c) / B64 = c' at *
  generalize M / B64 ^ (o + i) % B64 = z at *
  have e4 : (V % B64 ^ i + B64 ^ i * (V / B64 ^ i % B64)) * B64 ^ o = V % B64 ^ i * B64 ^ o + V / B64 ^ i % B64 * B64 ^ (o + i) := by
   rw [eq]; grind
  rw [e4]
  have e6 : w * B64 ^ (o + i) + c' * (B64 * B64 ^ (o + i)) = z * B64 ^ (o + i) + V / B64 ^ i % B64 * B64 ^ (o + i) + c * B64 ^ (o + i) := by
   have := congrArg (· * B64 ^ (o + i)) et
   simp only [Nat.add_mul] at this
   rw [← this]; grind
  omega
 ·rw [← Nat.add_assoc, n3, Nat.pow_succ, ← Nat.div_div_eq_div_mul, h2, Nat.div_div_eq_div_mul]
 ·have : M / B64 ^ (o + i) % B64 + V / B64 ^ i % B64 + c < B64 * 2 := by omega
  have := Nat.div_lt_of_lt_mul this
  omega
theorem addBack_last (m N V o n M c : Nat) (hm : o + n < m) (hV : V < B64 ^ n) (h : w3i N V o n M c) :
  ∃ M' e, digsN m M' = (digsN m M).set (o + n) ((M / B64 ^ (o + n) % B64 + c) % B64) ∧ M' + e * B64 ^ (o + n + 1) = N + V * B64 ^ o ∧ M' / B64 ^ (o + n + 1) = N / B64 ^ (o + n + 1) := by
 obtain ⟨h1, h2, h3⟩ := h
 obtain ⟨M', n1, n2, n3⟩ := digs_upd m M (o + n) ((M / B64 ^ (o + n) % B64 + c) % B64) hm (Nat.mod_lt _ (by decide))
 refine ⟨M', (M / B64 ^ (o + n) % B64 + c) / B64, n1, ?_, ?_⟩
 ·have et := Nat.mod_add_div (M / B64 ^ (o + n) % B64 + c) B64
  rw [Nat.mod_eq_of_lt hV] at h1
  rw [Nat.pow_succ]
  generalize (M / B64 ^ (o + n) % B64 + c) % B64 = w at *
  generalize (M / B64 ^ (o + n) % B64 + c) / B64 = c' at *
  generalize M / B64 ^ (o + n) % B64 = z at *
  have e6 : w * B64 ^ (o + n) + c' * (B64 ^ (o + n) * B64) = z * B64 ^ (o + n) + c * B64 ^ (o + n) := by
   have := congrArg (· * B64 ^ (o + n)) et
   simp only [Nat.add_mul] at this
   rw [← this]; grind
  omega
 ·rw [n3, Nat.pow_succ, ← Nat.div_div_eq_div_mul, h2, Nat.div_div_eq_div_mul]

theorem q8j (x i : Nat) : x / B64 ^ i = x / B64 ^ (i + 1) * B64 + x / B64 ^ i % B64 := by
 rw [Nat.pow_succ, ← Nat.div_div_eq_div_mul]
 have := Nat.div_add_mod (x / B64 ^ i) B64
 rw [Nat.mul_comm] at this; exact this.symm
structure Top (N V o n ut u1 u2 v1 v2 : Nat) : Prop where
 u : N / B64 ^ o / B64 ^ (n - 2) = (ut * B64 + u1) * B64 + u2
 v : V / B64 ^ (n - 2) = v1 * B64 + v2
 le : ut ≤ v1
 pos : B64 ^ (n - 2 + 1) ≤ V
 q : N / B64 ^ o / V * (v1 * B64 + v2) ≤ (ut * B64 + u1) * B64 + u2
 qB : N / B64 ^ o / V < B64
 v1p : 0 < v1
theorem top_of (N V o n : Nat) (hn : 2 ≤ n) (hV : V < B64 ^ n) (hV1 : B64 ^ (n - 1) ≤ V) (hN : N < V * B64 ^ (o + 1)) :
  Top N V o n (N / B64 ^ (o + n) % B64) (N / B64 ^ (o + (n - 1)) % B64) (N / B64 ^ (o + (n - 2)) % B64) (V / B64 ^ (n - 1) % B64) (V / B64 ^ (n - 2) % B64) := by
 obtain ⟨k, rfl⟩ : ∃ k, n = k + 2 := ⟨n - 2, by omega⟩
 simp only [show k + 2 - 1 = k + 1 by omega, show k + 2 - 2 = k by omega] at *
 have hVp : 0 < V := Nat.lt_of_lt_of_le (Nat.pow_pos (by decide)) hV1
 have hp1 : 0 < B64 ^ (k + 1) := Nat.pow_pos (by decide)
 have hpo : 0 < B64 ^ o := Nat.pow_pos (by decide)
 have hU : N / B64 ^ o < V * B64 := by
  rw [Nat.div_lt_iff_lt_mul hpo]
  rw [Nat.pow_succ] at hN
  calc N < V * (B64 ^ o * B64) := hN
   _ = V * B64 * B64 ^ o := by grind
 have hv1 : V / B64 ^ (k + 1) % B64 = V / B64 ^ (k + 1) := by
  apply Nat.mod_eq_of_lt
  rw [Nat.div_lt_iff_lt_mul hp1, Nat.mul_comm, ← Nat.pow_succ]; exact hV
 have hut : N / B64 ^ (o + (k + 2)) ≤ V / B64 ^ (k + 1) := by
  rw [Nat.pow_add, ← Nat.div_div_eq_div_mul]
  have h1 : N / B64 ^ o / B64 ^ (k + 2) ≤ V * B64 / B64 ^ (k + 2) := Nat.div_le_div_right (Nat.le_of_lt hU)
  have h2 : V * B64 / B64 ^ (k + 2) = V / B64 ^ (k + 1) := by
   rw [show k + 2 = (k + 1) + 1 by omega, Nat.pow_succ, Nat.mul_div_mul_right _ _ (by decide)]
  omega
 have hutm : N / B64 ^ (o + (k + 2)) % B64 = N / B64 ^ (o + (k + 2)) := by
  apply Nat.mod_eq_of_lt
  have : V / B64 ^ (k + 1) < B64 := by rw [← hv1]; exact Nat.mod_lt _ (by decide)
  omega
 have hu : N / B64 ^ o / B64 ^ k = (N / B64 ^ (o + (k + 2)) % B64 * B64 + N / B64 ^ (o + (k + 1)) % B64) * B64 + N / B64 ^ (o + k) % B64 := by
  have h2 : N / B64 ^ (o + k + 1) = N / B64 ^ (o + (k + 2)) * B64 + N / B64 ^ (o + (k + 1)) % B64 := q8j N (o + k + 1)
  rw [hutm, Nat.div_div_eq_div_mul, ← Nat.pow_add, ← h2]
  exact q8j N (o + k)
 have hv : V / B64 ^ k = V / B64 ^ (k + 1) % B64 * B64 + V / B64 ^ k % B64 := by
  rw [hv1]; exact q8j V k
 refine ⟨hu, hv, by rw [hutm, hv1]; exact hut, hV1, ?_, ?_, ?_⟩
 ·rw [← hu, ← hv]; exact est_le _ _ _
 ·exact Nat.div_lt_of_lt_mul (by rw [Nat.mul_comm] at hU; rw [Nat.mul_comm]; exact hU)
 ·rw [hv1]; exact Nat.div_pos hV1 hp1
theorem top_quo {Q u u2 v1 v2 : Nat} (hu2 : u2 < B64) (h : Q * (v1 * B64 + v2) ≤ u * B64 + u2) (hv : 0 < v1) : Q ≤ u / v1 := by
 rw [Nat.le_div_iff_mul_le hv]
 have e : Q * (v1 * B64 + v2) = Q * v1 * B64 + Q * v2 := by grind
 rw [e] at h
 generalize Q * v1 = a at *
 generalize Q * v2 = c at *
 simp only [B64] at *
 omega
theorem w3m {q : Nat} (v r : Nat) (h : 0 < q) : (q - 1) * v + (r + v) = q * v + r := by
 obtain ⟨k, rfl⟩ : ∃ k, q = k + 1 := ⟨q - 1, by omega⟩
 rw [Nat.add_sub_cancel, Nat.add_mul, Nat.one_mul]; omega
theorem step_fin0 {M N V o q : Nat} (hV : 0 < V) (hq : N / B64 ^ o / V ≤ q) (h : M + q * V * B64 ^ o = N) : q = N / B64 ^ o / V ∧ M = N - N / B64 ^ o / V * V * B64 ^ o := by
 have h1 : q * V ≤ N / B64 ^ o := (Nat.le_div_iff_mul_le (Nat.pow_pos (by decide))).2 (by omega)
 have h2 : q ≤ N / B64 ^ o / V := (Nat.le_div_iff_mul_le hV).2 h1
 have e : q = N / B64 ^ o / V := Nat.le_antisymm h2 hq
 rw [← e]
 exact ⟨rfl, by omega⟩
theorem step_fin1 {M M2 e N V o q n : Nat} (hV : 0 < V) (hVn : V < B64 ^ n) (hq : q ≤ N / B64 ^ o / V + 1) (hN : N < V * B64 ^ (o + 1))
  (h : M + q * V * B64 ^ o = N + 1 * B64 ^ (o + n + 1)) (hM : M / B64 ^ (o + n + 1) = N / B64 ^ (o + n + 1))
  (h2 : M2 + e * B64 ^ (o + n + 1) = M + V * B64 ^ o) (hM2 : M2 / B64 ^ (o + n + 1) = M / B64 ^ (o + n + 1)) : q = N / B64 ^ o / V + 1 ∧ M2 = N - N / B64 ^ o / V * V * B64 ^ o := by
 have hpo : 0 < B64 ^ o := Nat.pow_pos (by decide)
 have hP : 0 < B64 ^ (o + n + 1) := Nat.pow_pos (by decide)
 have hVo : V * B64 ^ o ≤ B64 ^ (o + n) := by
  rw [Nat.add_comm o n, Nat.pow_add]; exact Nat.mul_le_mul_right _ (Nat.le_of_lt hVn)
 have hPn : B64 ^ (o + n) * B64 = B64 ^ (o + n + 1) := (Nat.pow_succ ..).symm
 have hNP : N < B64 ^ (o + n + 1) := by
  have : V * B64 ^ (o + 1) = V * B64 ^ o * B64 := by rw [Nat.pow_succ]; grind
  have h3 : V * B64 ^ o * B64 ≤ B64 ^ (o + n) * B64 := Nat.mul_le_mul_right _ hVo
  omega
 rw [Nat.div_eq_of_lt hNP] at hM
 rw [hM] at hM2
 have hMP := (Nat.div_eq_zero_iff_lt hP).1 hM
 have hM2P := (Nat.div_eq_zero_iff_lt hP).1 hM2
 have hlow : N / B64 ^ o / V * V * B64 ^ o ≤ N := by
  have h3 : N / B64 ^ o / V * V ≤ N / B64 ^ o := Nat.div_mul_le_self _ _
  exact Nat.le_trans (Nat.mul_le_mul_right _ h3) (Nat.div_mul_le_self _ _)
 have hup : N < (N / B64 ^ o / V + 1) * V * B64 ^ o := by
  have h3 : N / B64 ^ o < (N / B64 ^ o / V + 1) * V := Nat.lt_mul_of_div_lt (Nat.lt_succ_self _) hV
  exact (Nat.div_lt_iff_lt_mul hpo).1 h3
 generalize N / B64 ^ o / V = Q at *
 have e1 : q = Q + 1 := by
  rcases Nat.lt_or_ge Q q with h4 | h4
  ·omega
  ·have : q * V * B64 ^ o ≤ Q * V * B64 ^ o := Nat.mul_le_mul_right _ (Nat.mul_le_mul_right _ h4)
   omega
 subst e1
 refine ⟨rfl, ?_⟩
 have e2 : (Q + 1) * V * B64 ^ o = Q * V * B64 ^ o + V * B64 ^ o := by grind
 have hB : B64 ^ (o + n) ≤ B64 ^ (o + n + 1) := by rw [← hPn]; exact Nat.le_mul_of_pos_right _ (by decide)
 rw [e2] at h hup
 generalize B64 ^ (o + n + 1) = P at *
 generalize Q * V * B64 ^ o = A at *
 generalize V * B64 ^ o = W at *
 have e3 : e = 1 := by
  rcases Nat.lt_trichotomy e 1 with h5 | h5 | h5
  ·have : e = 0 := by omega
   subst this
   omega
  ·exact h5
  ·have : 2 * P ≤ e * P := Nat.mul_le_mul_right _ h5
   omega
 subst e3
 omega

structure Long (A V i Q R : Nat) : Prop where
 eq : A = Q * V * B64 ^ i + R
 lt : R < V * B64 ^ i
theorem Long.start {a d s na n : Nat} (ha : a < B64 ^ na) (hd : B64 ^ (n - 1) ≤ d) (hn : 1 ≤ n) (hna : n ≤ na) : Long (a * 2 ^ s) (d * 2 ^ s) (na - n + 1) 0 (a * 2 ^ s) := by
 refine ⟨by simp, ?_⟩
 have h1 : B64 ^ na = B64 ^ (n - 1) * B64 ^ (na - n + 1) := by rw [← Nat.pow_add]; congr 1; omega
 have h2 : B64 ^ (n - 1) * B64 ^ (na - n + 1) ≤ d * B64 ^ (na - n + 1) := Nat.mul_le_mul_right _ hd
 have h3 : a < d * B64 ^ (na - n + 1) := by omega
 have h4 := Nat.mul_lt_mul_of_pos_right h3 (Nat.pow_pos (n := s) (show 0 < 2 by decide))
 have e : d * 2 ^ s * B64 ^ (na - n + 1) = d * B64 ^ (na - n + 1) * 2 ^ s := by grind
 rw [e]; exact h4
theorem Long.step {A V j Q R : Nat} (hV : 0 < V) (h : Long A V (j + 1) Q R) : Long A V j (Q * B64 + R / B64 ^ j / V) (R - R / B64 ^ j / V * V * B64 ^ j) ∧ R / B64 ^ j / V < B64 := by
 have hp : 0 < B64 ^ j := Nat.pow_pos (by decide)
 have hq : R / B64 ^ j < V * B64 := by
  rw [Nat.div_lt_iff_lt_mul hp]
  have := h.lt
  rw [Nat.pow_succ] at this
  have e : V * (B64 ^ j * B64) = V * B64 * B64 ^ j := by grind
  rw [← e]; exact this
 have hlow : R / B64 ^ j / V * V * B64 ^ j ≤ R := by
  have h3 : R / B64 ^ j / V * V ≤ R / B64 ^ j := Nat.div_mul_le_self _ _
  exact Nat.le_trans (Nat.mul_le_mul_right _ h3) (Nat.div_mul_le_self _ _)
 have hup : R < (R / B64 ^ j / V + 1) * V * B64 ^ j := by
  have h3 : R / B64 ^ j < (R / B64 ^ j / V + 1) * V := Nat.lt_mul_of_div_lt (Nat.lt_succ_self _) hV
  exact (Nat.div_lt_iff_lt_mul hp).1 h3
 refine ⟨⟨?_, ?_⟩, Nat.div_lt_of_lt_mul hq⟩
 ·have := h.eq
  rw [Nat.pow_succ] at this
  generalize R / B64 ^ j / V = q at *
  have e : (Q * B64 + q) * V * B64 ^ j = Q * V * (B64 ^ j * B64) + q * V * B64 ^ j := by grind
  rw [e]; omega
 ·generalize R / B64 ^ j / V = q at *
  have e : (q + 1) * V * B64 ^ j = q * V * B64 ^ j + V * B64 ^ j := by grind
  rw [e] at hup
  omega
theorem Long.fin {a d s Q R : Nat} (h : Long (a * 2 ^ s) (d * 2 ^ s) 0 Q R) : Q = a / d ∧ R = a % d * 2 ^ s := by
 have hps : 0 < 2 ^ s := Nat.pow_pos (by decide)
 obtain ⟨h1, h2⟩ := h
 rw [Nat.pow_zero, Nat.mul_one] at h1 h2
 have hd : 0 < d * 2 ^ s := by omega
 have e1 : a * 2 ^ s / (d * 2 ^ s) = Q := by
  rw [h1, Nat.mul_comm Q, Nat.mul_add_div hd, Nat.div_eq_of_lt h2, Nat.add_zero]
 have e2 : a * 2 ^ s % (d * 2 ^ s) = R := by
  rw [h1, Nat.mul_comm Q, Nat.mul_add_mod, Nat.mod_eq_of_lt h2]
 rw [Nat.mul_div_mul_right _ _ hps] at e1
 rw [Nat.mul_mod_mul_right] at e2
 exact ⟨e1.symm, e2.symm⟩
theorem long_set (m Q q j : Nat) (hj : j < m) (hq : q < B64) : digsN m ((Q * B64 + q) * B64 ^ j) = (digsN m (Q * B64 ^ (j + 1))).set j q := by
 have hp : 0 < B64 ^ j := Nat.pow_pos (by decide)
 have h := digsN_replace m 0 Q j 0 q hj hp (by decide) hq
 simp only [Nat.zero_add, Nat.zero_mul] at h
 rw [← h]
 congr 1
 rw [Nat.pow_succ]; grind
def q5r (R s m i : Nat) : List Nat := digsN m (R / 2 ^ s % B64 ^ i + R / B64 ^ i * B64 ^ i)
theorem dnFill_zero (R s m : Nat) : q5r R s m 0 = digsN m R := by
 unfold q5r; simp [Nat.mod_one]
theorem dn_word (R s i : Nat) (hs : s ≤ 63) : R / 2 ^ s / B64 ^ i % B64 = R / B64 ^ i % B64 / 2 ^ s + R / B64 ^ (i + 1) % B64 * 2 ^ (64 - s) % B64 := by
 have hB : B64 = 2 ^ (64 - s) * 2 ^ s := by rw [← Nat.pow_add, show 64 - s + s = 64 by omega]
 have hP : 0 < 2 ^ (64 - s) := Nat.pow_pos (by decide)
 have hK : 0 < 2 ^ s := Nat.pow_pos (by decide)
 rw [Nat.div_div_eq_div_mul, Nat.mul_comm (2 ^ s), ← Nat.div_div_eq_div_mul, Nat.pow_succ, ← Nat.div_div_eq_div_mul]
 generalize R / B64 ^ i = X
 have hw : X % B64 / 2 ^ s < 2 ^ (64 - s) := by
  rw [Nat.div_lt_iff_lt_mul hK, ← hB]; exact Nat.mod_lt _ (by decide)
 have e1 : X / 2 ^ s = X / B64 * 2 ^ (64 - s) + X % B64 / 2 ^ s := by
  have h := Nat.div_add_mod X B64
  conv => lhs; rw [← h]
  have e : B64 * (X / B64) = 2 ^ s * (X / B64 * 2 ^ (64 - s)) := by
   conv => lhs; rw [hB]
   rw [← hB]; grind
  rw [e, Nat.mul_add_div hK]
 rw [e1]
 generalize X / B64 = Y
 generalize X % B64 / 2 ^ s = w at *
 have e2 : Y % B64 % 2 ^ s = Y % 2 ^ s := Nat.mod_mod_of_dvd _ ⟨2 ^ (64 - s), by rw [Nat.mul_comm]; exact hB⟩
 generalize Y % B64 = Z at *
 rw [hB, Nat.mod_mul, Nat.mod_mul, Nat.mul_add_mod_self_right, Nat.mod_eq_of_lt hw, Nat.mul_mod_left, Nat.mul_div_cancel _ hP, e2, Nat.mul_comm Y, Nat.mul_add_div hP, Nat.div_eq_of_lt hw, Nat.add_zero]
 omega
theorem dnFill_succ (R s m i : Nat) (hi : i < m) : q5r R s m (i + 1) = (q5r R s m i).set i (R / 2 ^ s / B64 ^ i % B64) := by
 have hp : 0 < B64 ^ i := Nat.pow_pos (by decide)
 have h := digsN_replace m (R / 2 ^ s % B64 ^ i) (R / B64 ^ (i + 1)) i (R / B64 ^ i % B64) (R / 2 ^ s / B64 ^ i % B64) hi (Nat.mod_lt _ hp) (Nat.mod_lt _ (by decide)) (Nat.mod_lt _ (by decide))
 unfold q5r
 have e1 : R / 2 ^ s % B64 ^ i + R / B64 ^ i * B64 ^ i = R / 2 ^ s % B64 ^ i + R / B64 ^ i % B64 * B64 ^ i + R / B64 ^ (i + 1) * B64 ^ (i + 1) := by
  have := q8j R i
  conv => lhs; rhs; rw [this]
  rw [Nat.pow_succ]; grind
 have e2 : R / 2 ^ s % B64 ^ (i + 1) + R / B64 ^ (i + 1) * B64 ^ (i + 1) = R / 2 ^ s % B64 ^ i + R / 2 ^ s / B64 ^ i % B64 * B64 ^ i + R / B64 ^ (i + 1) * B64 ^ (i + 1) := by
  rw [Nat.mod_pow_succ]; grind
 rw [e1, e2, h]
theorem dnFill_get (R s m i : Nat) (hi : i < m) : (q5r R s m i)[i]? = some (R / B64 ^ i % B64) := by
 have hp : 0 < B64 ^ i := Nat.pow_pos (by decide)
 unfold q5r
 rw [digsN_get _ _ _ hi, Nat.add_mul_div_right _ _ hp, Nat.div_eq_of_lt (Nat.mod_lt _ hp), Nat.zero_add]
theorem dnFill_get1 (R s m i : Nat) (hi : i + 1 < m) : (q5r R s m i)[i + 1]? = some (R / B64 ^ (i + 1) % B64) := by
 have hp : 0 < B64 ^ i := Nat.pow_pos (by decide)
 unfold q5r
 rw [digsN_get _ _ _ hi, Nat.pow_succ, ← Nat.div_div_eq_div_mul, Nat.add_mul_div_right _ _ hp, Nat.div_eq_of_lt (Nat.mod_lt _ hp), Nat.zero_add, Nat.div_div_eq_div_mul]
theorem dnFill_take (R s m n : Nat) (hn : n ≤ m) (hR : R < B64 ^ n) : q5r R s m n = digsN m (R / 2 ^ s) := by
 unfold q5r
 rw [Nat.div_eq_of_lt hR, Nat.zero_mul, Nat.add_zero, Nat.mod_eq_of_lt (Nat.lt_of_le_of_lt (Nat.div_le_self _ _) hR)]
theorem digs_low (d : Nat) (hd : d ≠ 0) : B64 ^ ((digs d).length - 1) ≤ d ∧ 1 ≤ (digs d).length := by
 have h1 : 1 ≤ (digs d).length := by rw [digs_pos hd]; simp
 refine ⟨?_, h1⟩
 apply Nat.le_of_not_lt
 intro h
 have := digs_len d _ h
 omega
theorem norm_len (d s n : Nat) (hd : d ≠ 0) (hn : (digs d).length = n) (hs : s ≤ 63) (ht : d / B64 ^ (n - 1) * 2 ^ s < B64) : d * 2 ^ s < B64 ^ n ∧ (digs (d * 2 ^ s)).length = n := by
 obtain ⟨h1, h2⟩ := digs_low d hd
 rw [hn] at h1 h2
 have hp : 0 < B64 ^ (n - 1) := Nat.pow_pos (by decide)
 have hK : 0 < 2 ^ s := Nat.pow_pos (by decide)
 have hB : B64 = 2 ^ (64 - s) * 2 ^ s := by rw [← Nat.pow_add, show 64 - s + s = 64 by omega]
 have h3 : d / B64 ^ (n - 1) + 1 ≤ 2 ^ (64 - s) := by
  rw [hB] at ht
  exact Nat.lt_of_mul_lt_mul_right (a := 2 ^ s) (by rw [← hB] at ht ⊢; exact ht)
 have h4 : d < (d / B64 ^ (n - 1) + 1) * B64 ^ (n - 1) := Nat.lt_mul_of_div_lt (Nat.lt_succ_self _) hp
 have h5 : d * 2 ^ s < B64 ^ n := by
  have h6 : (d / B64 ^ (n - 1) + 1) * B64 ^ (n - 1) ≤ 2 ^ (64 - s) * B64 ^ (n - 1) := Nat.mul_le_mul_right _ h3
  have h7 := Nat.mul_lt_mul_of_pos_right (Nat.lt_of_lt_of_le h4 h6) hK
  have e : B64 ^ n = B64 ^ (n - 1) * B64 := by rw [← Nat.pow_succ]; congr 1; omega
  rw [e]
  have e2 : 2 ^ (64 - s) * B64 ^ (n - 1) * 2 ^ s = B64 ^ (n - 1) * (2 ^ (64 - s) * 2 ^ s) := by grind
  rw [e2, ← hB] at h7
  exact h7
 refine ⟨h5, Nat.le_antisymm (digs_len _ _ h5) ?_⟩
 apply Nat.le_of_not_lt
 intro h
 have h8 := lt_pow_digs (d * 2 ^ s)
 have h9 : B64 ^ (digs (d * 2 ^ s)).length ≤ B64 ^ (n - 1) := Nat.pow_le_pow_right (by decide) (by omega)
 have h10 : d ≤ d * 2 ^ s := Nat.le_mul_of_pos_right _ hK
 omega
theorem dn_or (x y s : Nat) (hs : s ≤ 63) (hx : x < B64) : (x / 2 ^ s ||| y * 2 ^ (64 - s) % B64) = x / 2 ^ s + y * 2 ^ (64 - s) % B64 := by
 have hB : B64 = 2 ^ (64 - s) * 2 ^ s := by rw [← Nat.pow_add, show 64 - s + s = 64 by omega]
 have hw : x / 2 ^ s < 2 ^ (64 - s) := by
  rw [Nat.div_lt_iff_lt_mul (Nat.pow_pos (by decide)), ← hB]; exact hx
 have e : y * 2 ^ (64 - s) % B64 = 2 ^ (64 - s) * (y % 2 ^ s) := by
  rw [hB, Nat.mul_comm y, Nat.mul_mod_mul_left]
 rw [e, Nat.or_comm, ← Nat.two_pow_add_eq_or_of_lt hw, Nat.add_comm]
theorem digsN_take (m n x : Nat) (h : n ≤ m) : (digsN m x).take n = digsN n x := by
 induction n generalizing m x with
 | zero => simp [digsN]
 | succ n ih =>
  obtain ⟨k, rfl⟩ : ∃ k, m = k + 1 := ⟨m - 1, by omega⟩
  rw [digsN, digsN, List.take_succ_cons, ih _ _ (by omega)]
theorem trim_pre (m n x : Nat) (h : n ≤ m) (hx : x < B64 ^ n) : (digsN m x).take (q1h (digsN m x) n) = digs x ∧ q1h (digsN m x) n = (digs x).length := by
 have h1 := take_trimTo (digsN m x) (digsN_lt m x) n (by rw [digsN_len]; exact h)
 rw [digsN_take m n x h, wval_digsN_of_lt hx] at h1
 refine ⟨h1, ?_⟩
 rw [← h1, List.length_take, Nat.min_eq_left]
 rw [digsN_len]; exact Nat.le_trans (q2v _ _) h
end Gx
end
