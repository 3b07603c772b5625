/- Lemmas for the row: plain facts, or contracts of functions. -/
import Derived.Test.YtehnbdbhjeffaaaGreatGz2
set_option linter.all false
section
/- Natural numbers as words to the base 2^32. (Printed by mkm.py out of GxNat..) -/
set_option autoImplicit false
namespace Gx.L

abbrev B32 : Nat := 4294967296
def digs (n : Nat) : List Nat := if h : n = 0 then [] else n % B32 :: digs (n / B32)
termination_by n
decreasing_by exact Nat.div_lt_self (Nat.pos_of_ne_zero h) (by decide)
def digsN : Nat → Nat → List Nat
 | 0, _ => []
 | m + 1, n => n % B32 :: digsN m (n / B32)
def wval : List Nat → Nat
 | [] => 0
 | w :: ws => w + B32 * wval ws
theorem digs_zero : digs 0 = [] := by unfold digs; simp
theorem digs_pos {n : Nat} (h : n ≠ 0) : digs n = n % B32 :: digs (n / B32) := by rw [digs]; simp [h]
theorem wval_digs (n : Nat) : wval (digs n) = n := by
 induction n using Nat.strongRecOn with
 | _ n ih =>
  by_cases h : n = 0
  ·subst h; rw [digs_zero]; rfl
  ·rw [digs_pos h, wval, ih _ (Nat.div_lt_self (Nat.pos_of_ne_zero h) (by decide))]
   exact Nat.mod_add_div n B32
theorem digsN_len (m n : Nat) : (digsN m n).length = m := by
 induction m generalizing n with
 | zero => rfl
 | succ m ih => simp [digsN, ih]
theorem wval_digsN (m n : Nat) : wval (digsN m n) = n % B32 ^ m := by
 induction m generalizing n with
 | zero => simp [digsN, wval, Nat.mod_one]
 | succ m ih =>
  rw [digsN, wval, ih, Nat.pow_succ, Nat.mul_comm (B32 ^ m) B32, Nat.mod_mul]
theorem digsN_get (m n j : Nat) (h : j < m) : (digsN m n)[j]? = some (n / B32 ^ j % B32) := by
 induction m generalizing n j with
 | zero => omega
 | succ m ih =>
  cases j with
  | zero => simp [digsN]
  | succ j =>
   rw [digsN, List.getElem?_cons_succ, ih _ _ (by omega), Nat.div_div_eq_div_mul, Nat.pow_succ, Nat.mul_comm (B32 ^ j)]
theorem digsN_lt (m n : Nat) : ∀ w ∈ digsN m n, w < B32 := by
 induction m generalizing n with
 | zero => intro w h; simp [digsN] at h
 | succ m ih =>
  intro w h
  rw [digsN, List.mem_cons] at h
  rcases h with rfl | h
  ·exact Nat.mod_lt _ (by decide)
  ·exact ih _ _ h
theorem digs_lt (n : Nat) : ∀ w ∈ digs n, w < B32 := by
 induction n using Nat.strongRecOn with
 | _ n ih =>
  intro w h
  by_cases h0 : n = 0
  ·subst h0; simp [digs_zero] at h
  ·rw [digs_pos h0, List.mem_cons] at h
   rcases h with rfl | h
   ·exact Nat.mod_lt _ (by decide)
   ·exact ih _ (Nat.div_lt_self (Nat.pos_of_ne_zero h0) (by decide)) _ h
theorem digsN_set (m n j w : Nat) (h : j < m) (hw : n / B32 ^ j % B32 + w < B32) : digsN m (n + w * B32 ^ j) = (digsN m n).set j (n / B32 ^ j % B32 + w) := by
 induction m generalizing n j with
 | zero => omega
 | succ m ih =>
  cases j with
  | zero =>
   simp only [Nat.pow_zero, Nat.div_one, Nat.mul_one, digsN, List.set_cons_zero] at *
   have e1 : (n + w) % B32 = n % B32 + w := by simp only [B32] at *; omega
   have e2 : (n + w) / B32 = n / B32 := by simp only [B32] at *; omega
   rw [e1, e2]
  | succ j =>
   have e0 : w * B32 ^ (j + 1) = B32 * (w * B32 ^ j) := by rw [Nat.pow_succ]; grind
   have e3 : n / B32 ^ (j + 1) = n / B32 / B32 ^ j := by rw [Nat.div_div_eq_div_mul, Nat.pow_succ, Nat.mul_comm (B32 ^ j)]
   rw [e3] at hw ⊢
   rw [digsN, digsN, List.set_cons_succ, ← ih _ _ (by omega) hw, e0, Nat.add_mul_mod_self_left, Nat.add_mul_div_left _ _ (by decide)]
theorem digs_wval (ws : List Nat) (hl : ∀ w ∈ ws, w < B32) (h0 : ∀ w ∈ ws.getLast?, w ≠ 0) : digs (wval ws) = ws := by
 induction ws with
 | nil => rw [wval, digs_zero]
 | cons w ws ih =>
  have hw : w < B32 := hl w List.mem_cons_self
  have ih' := ih (fun x hx => hl x (List.mem_cons_of_mem _ hx)) (by
   intro x hx
   cases ws with
   | nil => simp at hx
   | cons y ys => exact h0 x (by rw [List.getLast?_cons_cons]; exact hx))
  have hne : wval (w :: ws) ≠ 0 := by
   cases ws with
   | nil =>
    have := h0 w (by simp)
    simp only [wval]; omega
   | cons y ys =>
    intro hz
    have h1 : wval (y :: ys) = 0 := by
     simp only [wval, B32] at hz ⊢; omega
    rw [h1, digs_zero] at ih'
    simp at ih'
  rw [digs_pos hne, wval]
  rw [Nat.add_mul_mod_self_left, Nat.mod_eq_of_lt hw, Nat.add_mul_div_left _ _ (by decide), Nat.div_eq_of_lt hw, Nat.zero_add, ih']
theorem wval_append (a b : List Nat) : wval (a ++ b) = wval a + B32 ^ a.length * wval b := by
 induction a with
 | nil => simp [wval]
 | cons x a ih => simp only [List.cons_append, wval, ih, List.length_cons, Nat.pow_succ]; grind
theorem take_trimTo (ws : List Nat) (hl : ∀ w ∈ ws, w < B32) (k : Nat) (hk : k ≤ ws.length) : ws.take (q1h ws k) = digs (wval (ws.take k)) := by
 induction k with
 | zero => simp [q1h, wval, digs_zero]
 | succ k ih =>
  have hk' : k < ws.length := by omega
  have hg : ws.getD k 0 = ws[k] := by simp [List.getD, hk']
  have ht : ws.take (k + 1) = ws.take k ++ [ws[k]] := by rw [List.take_add_one]; simp [hk']
  unfold q1h
  rw [hg]
  split
  ·rename_i hz
   rw [ih (by omega), ht, hz, wval_append]; simp [wval]
  ·rename_i hz
   rw [digs_wval]
   ·intro w hw; exact hl w (List.mem_of_mem_take hw)
   ·intro w hw
    rw [ht, List.getLast?_append, List.getLast?_singleton, Option.some_or, Option.mem_some_iff] at hw
    rw [← hw]; exact hz
theorem trim_eq (ws : List Nat) (hl : ∀ w ∈ ws, w < B32) : ws.take (q1h ws ws.length) = digs (wval ws) := by
 rw [take_trimTo ws hl _ (Nat.le_refl _), List.take_length]
theorem trim_len (ws : List Nat) (hl : ∀ w ∈ ws, w < B32) : q1h ws ws.length = (digs (wval ws)).length := by
 rw [← trim_eq ws hl, List.length_take, Nat.min_eq_left (q2v _ _)]
theorem wval_lt (ws : List Nat) (hl : ∀ w ∈ ws, w < B32) : wval ws < B32 ^ ws.length := by
 induction ws with
 | nil => simp [wval]
 | cons w ws ih =>
  have h1 := ih fun x hx => hl x (List.mem_cons_of_mem _ hx)
  have h2 := hl w List.mem_cons_self
  rw [wval, List.length_cons, Nat.pow_succ]
  have : B32 * (wval ws + 1) ≤ B32 * B32 ^ ws.length := Nat.mul_le_mul_left _ h1
  rw [Nat.mul_comm (B32 ^ ws.length)]
  rw [Nat.mul_add] at this
  omega
theorem wval_get (ws : List Nat) (hl : ∀ w ∈ ws, w < B32) (i : Nat) (h : i < ws.length) : ws[i] = wval ws / B32 ^ i % B32 := by
 induction ws generalizing i with
 | nil => simp at h
 | cons w ws ih =>
  have h2 := hl w List.mem_cons_self
  cases i with
  | zero =>
   simp only [List.getElem_cons_zero, wval, Nat.pow_zero, Nat.div_one]
   rw [Nat.add_mul_mod_self_left, Nat.mod_eq_of_lt h2]
  | succ i =>
   simp only [List.getElem_cons_succ]
   rw [ih (fun x hx => hl x (List.mem_cons_of_mem _ hx)) i (by simpa using h), wval, Nat.pow_succ, Nat.mul_comm (B32 ^ i), ← Nat.div_div_eq_div_mul, Nat.add_mul_div_left _ _ (by decide), Nat.div_eq_of_lt h2, Nat.zero_add]
theorem digs_len (n : Nat) (k : Nat) (h : n < B32 ^ k) : (digs n).length ≤ k := by
 induction k generalizing n with
 | zero => have : n = 0 := by simpa using h
           subst this; rw [digs_zero]; simp
 | succ k ih =>
  by_cases h0 : n = 0
  ·subst h0; rw [digs_zero]; simp
  ·rw [digs_pos h0, List.length_cons]
   have := ih (n / B32) (by rw [Nat.pow_succ] at h; exact Nat.div_lt_of_lt_mul (by rw [Nat.mul_comm]; exact h))
   omega
theorem take_get {ws : List Nat} {v k i : Nat} (h : ws.take k = digs v) (hi : i < k) (hw : i < ws.length) : ws[i] = v / B32 ^ i % B32 := by
 have h1 : i < (ws.take k).length := by rw [List.length_take]; omega
 have h2 : (ws.take k)[i] = ws[i] := List.getElem_take
 have h3 := wval_get (ws.take k) (by rw [h]; exact digs_lt v) i h1
 have h4 : wval (ws.take k) = v := by rw [h, wval_digs]
 rw [← h2, h3, h4]
theorem digs_len_lt {a b : Nat} (h : (digs a).length < (digs b).length) : a < b := by
 apply Nat.lt_of_not_le
 intro hab
 have h1 := wval_lt (digs a) (digs_lt a)
 rw [wval_digs] at h1
 have := digs_len b _ (Nat.lt_of_le_of_lt hab h1)
 omega
def lowSum (x y i : Nat) : Nat := x % B32 ^ i + y % B32 ^ i
def addFill (x y m i : Nat) : List Nat := digsN m (lowSum x y i % B32 ^ i)
theorem addFill_zero (x y m : Nat) : addFill x y m 0 = List.replicate m 0 := by
 unfold addFill lowSum
 simp only [Nat.pow_zero, Nat.mod_one]
 induction m with
 | zero => rfl
 | succ m ih => rw [digsN, List.replicate_succ, Nat.zero_div, ih]; rfl
theorem digsN_put (m r i w : Nat) (hi : i < m) (hr : r < B32 ^ i) (hw : w < B32) : digsN m (r + w * B32 ^ i) = (digsN m r).set i w := by
 have h0 : r / B32 ^ i = 0 := Nat.div_eq_of_lt hr
 have := digsN_set m r i w hi (by rw [h0]; simpa using hw)
 rw [this, h0]; simp
theorem lowSum_succ (x y i : Nat) : lowSum x y (i + 1) = lowSum x y i % B32 ^ i + B32 ^ i * (x / B32 ^ i % B32 + y / B32 ^ i % B32 + lowSum x y i / B32 ^ i) := by
 have h : lowSum x y (i + 1) = lowSum x y i + B32 ^ i * (x / B32 ^ i % B32 + y / B32 ^ i % B32) := by
  unfold lowSum
  rw [Nat.mod_pow_succ, Nat.mod_pow_succ]
  grind
 rw [h]
 have := Nat.mod_add_div (lowSum x y i) (B32 ^ i)
 grind
theorem low_mod {r M t : Nat} (hr : r < M) : (r + M * t) % (M * B32) = r + (t % B32) * M ∧ (r + M * t) / (M * B32) = t / B32 := by
 have hM : 0 < M := by omega
 constructor
 ·rw [Nat.mod_mul, Nat.add_mul_mod_self_left, Nat.mod_eq_of_lt hr, Nat.add_mul_div_left _ _ hM, Nat.div_eq_of_lt hr, Nat.zero_add, Nat.mul_comm M]
 ·rw [← Nat.div_div_eq_div_mul, Nat.add_mul_div_left _ _ hM, Nat.div_eq_of_lt hr, Nat.zero_add]
theorem addFill_succ (x y m i : Nat) (hi : i < m) :
  addFill x y m (i + 1) = (addFill x y m i).set i ((x / B32 ^ i % B32 + y / B32 ^ i % B32 + lowSum x y i / B32 ^ i) % B32) ∧
  lowSum x y (i + 1) / B32 ^ (i + 1) = (x / B32 ^ i % B32 + y / B32 ^ i % B32 + lowSum x y i / B32 ^ i) / B32 := by
 have hp : 0 < B32 ^ i := Nat.pow_pos (by decide)
 have hr := Nat.mod_lt (lowSum x y i) hp
 obtain ⟨h1, h2⟩ := low_mod (t := x / B32 ^ i % B32 + y / B32 ^ i % B32 + lowSum x y i / B32 ^ i) hr
 rw [← lowSum_succ, ← Nat.pow_succ] at h1 h2
 refine ⟨?_, h2⟩
 unfold addFill
 rw [h1, digsN_put _ _ _ _ hi hr (Nat.mod_lt _ (by decide))]
theorem lowSum_carry (x y i : Nat) : lowSum x y i / B32 ^ i ≤ 1 := by
 have hp : 0 < B32 ^ i := Nat.pow_pos (by decide)
 have h1 := Nat.mod_lt x hp
 have h2 := Nat.mod_lt y hp
 unfold lowSum
 have : (x % B32 ^ i + y % B32 ^ i) / B32 ^ i < 2 := Nat.div_lt_of_lt_mul (by omega)
 omega
theorem addFill_last (x y n : Nat) (hx : x < B32 ^ n) (hy : y < B32 ^ n) : (addFill x y (n + 1) n).set n (lowSum x y n / B32 ^ n) = digsN (n + 1) (x + y) := by
 have hp : 0 < B32 ^ n := Nat.pow_pos (by decide)
 have h1 : lowSum x y n = x + y := by unfold lowSum; rw [Nat.mod_eq_of_lt hx, Nat.mod_eq_of_lt hy]
 have h2 := lowSum_carry x y n
 unfold addFill
 rw [← digsN_put _ _ _ _ (Nat.lt_succ_self n) (Nat.mod_lt _ hp) (Nat.lt_of_le_of_lt h2 (by decide)), Nat.mul_comm, Nat.mod_add_div, h1]
theorem lt_pow_digs (x : Nat) : x < B32 ^ (digs x).length := by
 have := wval_lt (digs x) (digs_lt x)
 rwa [wval_digs] at this
theorem digs_get (x i : Nat) (h : i < (digs x).length) : (digs x)[i] = x / B32 ^ i % B32 := by
 have := wval_get (digs x) (digs_lt x) i h
 rwa [wval_digs] at this
theorem high_zero (y i n : Nat) (h : (digs y).length ≤ i) : y / B32 ^ i % B32 = 0 := by
 rw [Nat.div_eq_of_lt (Nat.lt_of_lt_of_le (lt_pow_digs y) (Nat.pow_le_pow_right (by decide) h))]; rfl
theorem wval_digsN_of_lt {m n : Nat} (h : n < B32 ^ m) : wval (digsN m n) = n := by rw [wval_digsN, Nat.mod_eq_of_lt h]
def lowDiff (x y i : Nat) : Nat := (x % B32 ^ i + B32 ^ i - y % B32 ^ i) % B32 ^ i
def borrow (x y i : Nat) : Nat := if x % B32 ^ i < y % B32 ^ i then 1 else 0
def subFill (x y m i : Nat) : List Nat := digsN m (lowDiff x y i + x / B32 ^ i * B32 ^ i)
theorem subFill_zero (x y m : Nat) : subFill x y m 0 = digsN m x := by
 unfold subFill lowDiff
 simp only [Nat.pow_zero, Nat.mod_one, Nat.div_one, Nat.mul_one, Nat.zero_add]
theorem borrow_le (x y i : Nat) : borrow x y i ≤ 1 := by unfold borrow; split <;> omega
theorem low_eq (x y i : Nat) : x % B32 ^ i + borrow x y i * B32 ^ i = y % B32 ^ i + lowDiff x y i ∧ lowDiff x y i < B32 ^ i := by
 have hp : 0 < B32 ^ i := Nat.pow_pos (by decide)
 have h1 := Nat.mod_lt x hp
 have h2 := Nat.mod_lt y hp
 unfold borrow lowDiff
 generalize x % B32 ^ i = X at *
 generalize y % B32 ^ i = Y at *
 generalize B32 ^ i = M at *
 refine ⟨?_, Nat.mod_lt _ hp⟩
 split
 ·rw [Nat.mod_eq_of_lt (by omega)]; omega
 ·rw [show X + M - Y = X - Y + M by omega, Nat.add_mod_right, Nat.mod_eq_of_lt (by omega)]; omega
theorem digsN_replace (m r T i v w : Nat) (hi : i < m) (hr : r < B32 ^ i) (hv : v < B32) (hw : w < B32) : digsN m (r + w * B32 ^ i + T * B32 ^ (i + 1)) = (digsN m (r + v * B32 ^ i + T * B32 ^ (i + 1))).set i w := by
 have hp : 0 < B32 ^ i := Nat.pow_pos (by decide)
 have h0 : (r + T * B32 ^ (i + 1)) / B32 ^ i % B32 = 0 := by
  rw [Nat.pow_succ, ← Nat.mul_assoc, Nat.mul_right_comm, Nat.add_mul_div_right _ _ hp, Nat.div_eq_of_lt hr, Nat.zero_add, Nat.mul_mod_left]
 have h1 := digsN_set m (r + T * B32 ^ (i + 1)) i w hi (by rw [h0, Nat.zero_add]; exact hw)
 have h2 := digsN_set m (r + T * B32 ^ (i + 1)) i v hi (by rw [h0, Nat.zero_add]; exact hv)
 rw [h0, Nat.zero_add] at h1 h2
 rw [Nat.add_right_comm, h1, Nat.add_right_comm, h2, List.set_set]
theorem subFill_succ (x y m i : Nat) (hi : i < m) :
  subFill x y m (i + 1) = (subFill x y m i).set i ((x / B32 ^ i % B32 + B32 - y / B32 ^ i % B32 - borrow x y i) % B32) ∧
  borrow x y (i + 1) = if x / B32 ^ i % B32 < y / B32 ^ i % B32 + borrow x y i then 1 else 0 := by
 have hp : 0 < B32 ^ i := Nat.pow_pos (by decide)
 obtain ⟨h1, h2⟩ := low_eq x y i
 obtain ⟨h3, h4⟩ := low_eq x y (i + 1)
 have hx : x % B32 ^ (i + 1) = x % B32 ^ i + B32 ^ i * (x / B32 ^ i % B32) := Nat.mod_pow_succ
 have hy : y % B32 ^ (i + 1) = y % B32 ^ i + B32 ^ i * (y / B32 ^ i % B32) := Nat.mod_pow_succ
 have hb := borrow_le x y i
 have hxi : x / B32 ^ i % B32 < B32 := Nat.mod_lt _ (by decide)
 have hyi : y / B32 ^ i % B32 < B32 := Nat.mod_lt _ (by decide)
 have hxd : x / B32 ^ i = x / B32 ^ (i + 1) * B32 + x / B32 ^ i % B32 := by
  rw [Nat.pow_succ, ← Nat.div_div_eq_div_mul]
  have := Nat.div_add_mod (x / B32 ^ i) B32
  rw [Nat.mul_comm] at this; exact this.symm
 have hd : lowDiff x y (i + 1) = lowDiff x y i + (x / B32 ^ i % B32 + B32 - y / B32 ^ i % B32 - borrow x y i) % B32 * B32 ^ i := by
  have e : x % B32 ^ (i + 1) + B32 ^ (i + 1) - y % B32 ^ (i + 1) = lowDiff x y i + B32 ^ i * (x / B32 ^ i % B32 + B32 - y / B32 ^ i % B32 - borrow x y i) := by
   rw [hx, hy, Nat.pow_succ]
   generalize x / B32 ^ i % B32 = xi at *
   generalize y / B32 ^ i % B32 = yi at *
   generalize borrow x y i = c at *
   obtain ⟨d, hd⟩ : ∃ d, xi + B32 = yi + c + d := ⟨xi + B32 - (yi + c), by omega⟩
   have e1 : xi + B32 - yi - c = d := by omega
   rw [e1]
   have e2 : B32 ^ i * xi + B32 ^ i * B32 = B32 ^ i * yi + B32 ^ i * c + B32 ^ i * d := by
    rw [← Nat.mul_add, hd, Nat.mul_add, Nat.mul_add]
   rw [Nat.mul_comm c] at h1
   omega
  have : lowDiff x y (i + 1) = (x % B32 ^ (i + 1) + B32 ^ (i + 1) - y % B32 ^ (i + 1)) % B32 ^ (i + 1) := rfl
  rw [this, e, Nat.pow_succ]
  exact (low_mod h2).1
 refine ⟨?_, ?_⟩
 ·unfold subFill
  rw [hd]
  have e : x / B32 ^ i * B32 ^ i = x / B32 ^ i % B32 * B32 ^ i + x / B32 ^ (i + 1) * B32 ^ (i + 1) := by
   conv => lhs; rw [hxd]
   rw [Nat.pow_succ]; grind
  rw [e, ← Nat.add_assoc, digsN_replace m (lowDiff x y i) _ i _ _ hi h2 hxi (Nat.mod_lt _ (by decide))]
 ·have : borrow x y (i + 1) = if x % B32 ^ (i + 1) < y % B32 ^ (i + 1) then 1 else 0 := rfl
  rw [this, hx, hy]
  generalize x / B32 ^ i % B32 = xi at *
  generalize y / B32 ^ i % B32 = yi at *
  generalize borrow x y i = c at *
  have key : x % B32 ^ i + B32 ^ i * xi < y % B32 ^ i + B32 ^ i * yi ↔ xi < yi + c := by
   constructor
   ·intro h
    apply Nat.lt_of_not_le
    intro hle
    have := Nat.mul_le_mul_left (B32 ^ i) hle
    rw [Nat.mul_add, Nat.mul_comm _ c] at this
    omega
   ·intro h
    have := Nat.mul_le_mul_left (B32 ^ i) (Nat.succ_le_of_lt h)
    rw [Nat.succ_eq_add_one, Nat.mul_add, Nat.mul_add, Nat.mul_comm _ c] at this
    omega
  by_cases h : xi < yi + c
  ·rw [if_pos h, if_pos (key.2 h)]
  ·rw [if_neg h, if_neg (fun hh => h (key.1 hh))]
theorem subFill_last (x y n : Nat) (hx : x < B32 ^ n) (hxy : y ≤ x) : subFill x y n n = digsN n (x - y) := by
 have hp : 0 < B32 ^ n := Nat.pow_pos (by decide)
 unfold subFill lowDiff
 rw [Nat.mod_eq_of_lt hx, Nat.mod_eq_of_lt (Nat.lt_of_le_of_lt hxy hx), Nat.div_eq_of_lt hx, Nat.zero_mul, Nat.add_zero]
 rw [show x + B32 ^ n - y = x - y + B32 ^ n by omega, Nat.add_mod_right, Nat.mod_eq_of_lt (by omega)]
theorem digsN_digs (n : Nat) : digsN (digs n).length n = digs n := by
 induction n using Nat.strongRecOn with
 | _ n ih =>
  by_cases h : n = 0
  ·subst h; rw [digs_zero]; rfl
  ·rw [digs_pos h, List.length_cons, digsN, ih _ (Nat.div_lt_self (Nat.pos_of_ne_zero h) (by decide))]
theorem subFill_get (x y m i : Nat) (hi : i < m) (hl : i < (subFill x y m i).length) : (subFill x y m i)[i] = x / B32 ^ i % B32 := by
 have h := digsN_get m (lowDiff x y i + x / B32 ^ i * B32 ^ i) i hi
 have hp : 0 < B32 ^ i := Nat.pow_pos (by decide)
 rw [Nat.add_mul_div_right _ _ hp, Nat.div_eq_of_lt (low_eq x y i).2, Nat.zero_add] at h
 exact (List.getElem?_eq_some_iff.1 h).2
theorem digs_upd (m N k w : Nat) (hk : k < m) (hw : w < B32) : ∃ N', digsN m N' = (digsN m N).set k w ∧ N' + N / B32 ^ k % B32 * B32 ^ k = N + w * B32 ^ k ∧ N' / B32 ^ (k + 1) = N / B32 ^ (k + 1) := by
 have hp : 0 < B32 ^ k := Nat.pow_pos (by decide)
 have hr := Nat.mod_lt N hp
 have hv : N / B32 ^ k % B32 < B32 := Nat.mod_lt _ (by decide)
 have e1 : N = N % B32 ^ k + N / B32 ^ k % B32 * B32 ^ k + N / B32 ^ (k + 1) * B32 ^ (k + 1) := by
  have h1 := Nat.mod_add_div N (B32 ^ k)
  have h2 := Nat.mod_add_div (N / B32 ^ k) B32
  rw [Nat.pow_succ, ← Nat.div_div_eq_div_mul]
  generalize N / B32 ^ k / B32 = T at *
  generalize N / B32 ^ k % B32 = z at *
  rw [← h2] at h1
  grind
 refine ⟨N % B32 ^ k + w * B32 ^ k + N / B32 ^ (k + 1) * B32 ^ (k + 1), ?_, ?_, ?_⟩
 ·have := digsN_replace m (N % B32 ^ k) (N / B32 ^ (k + 1)) k (N / B32 ^ k % B32) w hk hr hv hw
  rw [← e1] at this; exact this
 ·omega
 ·have hp1 : 0 < B32 ^ (k + 1) := Nat.pow_pos (by decide)
  rw [Nat.add_mul_div_right _ _ hp1]
  have : N % B32 ^ k + w * B32 ^ k < B32 ^ (k + 1) := by
   have h3 : (w + 1) * B32 ^ k ≤ B32 * B32 ^ k := Nat.mul_le_mul_right _ hw
   rw [Nat.pow_succ, Nat.mul_comm (B32 ^ k) B32]
   rw [Nat.add_mul] at h3; omega
  rw [Nat.div_eq_of_lt this, Nat.zero_add]
def Row (x y i j : Nat) (N c : Nat) : Prop :=
 N + c * B32 ^ (i + j) = x % B32 ^ i * y + x / B32 ^ i % B32 * B32 ^ i * (y % B32 ^ j) ∧ N / B32 ^ (i + j) = x % B32 ^ i * y / B32 ^ (i + j) ∧ c < B32
theorem row_zero (x y i : Nat) : Row x y i 0 (x % B32 ^ i * y) 0 := by
 unfold Row; simp [Nat.mod_one]
theorem mul_add_lt {a b c d : Nat} (ha : a < B32) (hb : b < B32) (hc : c < B32) (hd : d < B32) : a * b + c + d < B32 * B32 := by
 have : a * b ≤ 4294967295 * 4294967295 := Nat.mul_le_mul (by simp only [B32] at ha; omega) (by simp only [B32] at hb; omega)
 simp only [B32] at *; omega
theorem row_step (x y m i j N c : Nat) (h : Row x y i j N c) (hm : i + j < m) :
  ∃ N', digsN m N' = (digsN m N).set (i + j) ((x / B32 ^ i % B32 * (y / B32 ^ j % B32) + N / B32 ^ (i + j) % B32 + c) % B32) ∧ Row x y i (j + 1) N' ((x / B32 ^ i % B32 * (y / B32 ^ j % B32) + N / B32 ^ (i + j) % B32 + c) / B32) := by
 obtain ⟨h1, h2, h3⟩ := h
 have hxi : x / B32 ^ i % B32 < B32 := Nat.mod_lt _ (by decide)
 have hyj : y / B32 ^ j % B32 < B32 := Nat.mod_lt _ (by decide)
 have hz : N / B32 ^ (i + j) % B32 < B32 := Nat.mod_lt _ (by decide)
 have ht := mul_add_lt hxi hyj hz h3
 obtain ⟨N', n1, n2, n3⟩ := digs_upd m N (i + j) ((x / B32 ^ i % B32 * (y / B32 ^ j % B32) + N / B32 ^ (i + j) % B32 + c) % B32) hm (Nat.mod_lt _ (by decide))
 refine ⟨N', n1, ?_, ?_, Nat.div_lt_of_lt_mul ht⟩
 ·have e := Nat.mod_add_div (x / B32 ^ i % B32 * (y / B32 ^ j % B32) + N / B32 ^ (i + j) % B32 + c) B32
  have ey : y % B32 ^ (j + 1) = y % B32 ^ j + B32 ^ j * (y / B32 ^ j % B32) := Nat.mod_pow_succ
  rw [ey]
  have ep : B32 ^ (i + (j + 1)) = B32 * B32 ^ (i + j) := by rw [← Nat.add_assoc, Nat.pow_succ, Nat.mul_comm]
  have eq : B32 ^ (i + j) = B32 ^ i * B32 ^ j := Nat.pow_add _ _ _
  rw [ep]
  generalize hzz : N / B32 ^ (i + j) % B32 = z at *
  generalize htt : x / B32 ^ i % B32 * (y / B32 ^ j % B32) + z + c = t at *
  have e2 : N' + z * B32 ^ (i + j) + t / B32 * (B32 * B32 ^ (i + j)) = N + t * B32 ^ (i + j) := by
   rw [n2]
   conv => rhs; rw [← e]
   grind
  have e4 : x / B32 ^ i % B32 * B32 ^ i * (y % B32 ^ j + B32 ^ j * (y / B32 ^ j % B32)) = x / B32 ^ i % B32 * B32 ^ i * (y % B32 ^ j) + x / B32 ^ i % B32 * (y / B32 ^ j % B32) * B32 ^ (i + j) := by
   rw [eq]; grind
  rw [e4]
  rw [← htt] at e2 ⊢
  rw [Nat.add_mul, Nat.add_mul] at e2
  omega
 ·rw [← Nat.add_assoc, n3, Nat.pow_succ, ← Nat.div_div_eq_div_mul, h2, Nat.div_div_eq_div_mul]
theorem row_last (x y m i N c n : Nat) (hy : y < B32 ^ n) (h : Row x y i n N c) (hm : i + n < m) :
  (digsN m N).set (i + n) c = digsN m (x % B32 ^ (i + 1) * y) := by
 obtain ⟨h1, h2, h3⟩ := h
 have hp : 0 < B32 ^ i := Nat.pow_pos (by decide)
 have hlt : x % B32 ^ i * y < B32 ^ (i + n) := by
  rw [Nat.pow_add]
  exact Nat.mul_lt_mul'' (Nat.mod_lt _ hp) hy
 rw [Nat.div_eq_of_lt hlt] at h2
 have hN : N < B32 ^ (i + n) := by
  have hp2 : 0 < B32 ^ (i + n) := Nat.pow_pos (by decide)
  exact (Nat.div_eq_zero_iff_lt hp2).1 h2
 rw [← digsN_put m N (i + n) c hm hN h3, h1, Nat.mod_eq_of_lt hy, Nat.mod_pow_succ]
 congr 1; grind
theorem digsN_zero (m : Nat) : digsN m 0 = List.replicate m 0 := by
 induction m with
 | zero => rfl
 | succ m ih => rw [digsN, List.replicate_succ, Nat.zero_div, ih]; rfl
end Gx.L
end
section
/- Natural numbers as words to the base 2^32: what the reference's functions do with them. -/
set_option autoImplicit false
namespace Gx.L
theorem digsN_snoc (m V : Nat) : digsN m V ++ [V / B32 ^ m % B32] = digsN (m + 1) V := by
 induction m generalizing V with
 | zero => simp [digsN]
 | succ m ih =>
  rw [digsN, digsN, List.cons_append, Nat.pow_succ, Nat.mul_comm, ← Nat.div_div_eq_div_mul, ih]
theorem digsN_wval (m V : Nat) (h : V < B32 ^ m) : wval (digsN m V) = V := by rw [wval_digsN, Nat.mod_eq_of_lt h]
theorem bval_app (a b : List UInt8) : bval (a ++ b) = bval a * 256 ^ b.length + bval b := by
 rw [bval, List.foldl_append, foldl_bval]; rfl
theorem bval_take_div (l : List UInt8) (i : Nat) (h : i ≤ l.length) : bval l / 256 ^ (l.length - i) = bval (l.take i) := by
 have h1 : bval l = bval (l.take i) * 256 ^ (l.length - i) + bval (l.drop i) := by
  conv => lhs; rw [← List.take_append_drop i l]
  rw [bval_app, List.length_drop]
 have h2 := q5v (l.drop i)
 rw [List.length_drop] at h2
 rw [h1, Nat.mul_comm, Nat.mul_add_div (Nat.pow_pos (by decide)), Nat.div_eq_of_lt h2, Nat.add_zero]
theorem dig_step (l : List UInt8) (s i : Nat) (hs : s ≤ i) (hi : i < l.length) : bval (l.take (i + 1)) % 256 ^ (i + 1 - s) = bval (l.take i) % 256 ^ (i - s) * 256 + l[i].toNat := by
 have hb : l[i].toNat < 256 := l[i].toNat_lt
 rw [bval_take l i hi, show i + 1 - s = i - s + 1 by omega, Nat.pow_succ, Nat.mul_comm (256 ^ (i - s)) 256, Nat.mod_mul]
 have e1 : (bval (l.take i) * 256 + l[i].toNat) % 256 = l[i].toNat := by omega
 have e2 : (bval (l.take i) * 256 + l[i].toNat) / 256 = bval (l.take i) := by omega
 rw [e1, e2]; omega
theorem dig_last (l : List UInt8) (m e : Nat) (he : e + 4 * m = l.length) : bval (l.take e) % 256 ^ (e - (e - 4)) = bval l / B32 ^ m % B32 := by
 have h1 := bval_take_div l e (by omega)
 rw [show l.length - e = 4 * m by omega, Nat.pow_mul, show 256 ^ 4 = B32 from rfl] at h1
 rw [h1]
 by_cases h4 : 4 ≤ e
 ·rw [show e - (e - 4) = 4 by omega]
 ·have h2 := q5v (l.take e)
  rw [List.length_take, Nat.min_eq_left (by omega)] at h2
  rw [show e - (e - 4) = e by omega, Nat.mod_eq_of_lt h2, Nat.mod_eq_of_lt (Nat.lt_of_lt_of_le h2 _)]
  rw [show B32 = 256 ^ 4 from rfl]
  exact Nat.pow_le_pow_right (by decide) (by omega)
theorem dig_lt (x k : Nat) (hk : k ≤ 4) : x % 256 ^ k < B32 := by
 refine Nat.lt_of_lt_of_le (Nat.mod_lt _ (Nat.pow_pos (by decide))) ?_
 rw [show B32 = 256 ^ 4 from rfl]
 exact Nat.pow_le_pow_right (by decide) hk
theorem all_read (l : List UInt8) (m : Nat) (h : l.length ≤ 4 * m) : bval l < B32 ^ m := by
 rw [show B32 = 256 ^ 4 from rfl, ← Nat.pow_mul]
 exact Nat.lt_of_lt_of_le (q5v l) (Nat.pow_le_pow_right (by decide) h)
theorem bytes_push (v x : Nat) (hx : x < 256) : q0b (v * 256 + x) = if 0 < (q0b v).length ∨ 0 < x then q0b v ++ [UInt8.ofNat x] else q0b v := by
 by_cases h : v * 256 + x = 0
 ·have hv : v = 0 := by omega
  have hx0 : x = 0 := by omega
  subst hv; subst hx0
  simp [q1c]
 ·rw [q5t h, show (v * 256 + x) / 256 = v by omega, show (v * 256 + x) % 256 = x by omega, if_pos]
  by_cases hv : v = 0
  ·right; omega
  ·left
   apply Nat.pos_of_ne_zero
   intro h0
   exact hv ((q1b v).1 (List.length_eq_zero_iff.1 h0))
theorem word_byte (T w j : Nat) (hj : j < 4) : (T * 256 ^ j + w / 256 ^ (4 - j)) * 256 + w / 256 ^ (3 - j) % 256 = T * 256 ^ (j + 1) + w / 256 ^ (4 - (j + 1)) := by
 have e : w / 256 ^ (4 - j) = w / 256 ^ (3 - j) / 256 := by
  rw [Nat.div_div_eq_div_mul, ← Nat.pow_succ]; congr 2; omega
 rw [e, Nat.pow_succ, show 4 - (j + 1) = 3 - j by omega]
 generalize w / 256 ^ (3 - j) = y
 have := Nat.div_add_mod y 256
 rw [Nat.add_mul]; rw [← Nat.mul_assoc]; omega
theorem wval_drop (ws : List Nat) (i : Nat) (h : i < ws.length) : wval (ws.drop i) = ws[i] + B32 * wval (ws.drop (i + 1)) := by
 rw [List.drop_eq_getElem_cons h, wval]
theorem digs_len_bytes (n : Nat) : 4 * (digs n).length ≤ (q0b n).length + 3 := by
 have h := q5v (q0b n)
 rw [q1d] at h
 have h2 : n < B32 ^ (((q0b n).length + 3) / 4) := by
  rw [show B32 = 256 ^ 4 from rfl, ← Nat.pow_mul]
  exact Nat.lt_of_lt_of_le h (Nat.pow_le_pow_right (by decide) (by omega))
 have := digs_len n _ h2
 omega
theorem digs_low (d : Nat) (hd : d ≠ 0) : B32 ^ ((digs d).length - 1) ≤ d ∧ 1 ≤ (digs d).length := by
 have h1 : 1 ≤ (digs d).length := by rw [digs_pos hd]; simp
 refine ⟨?_, h1⟩
 apply Nat.le_of_not_lt
 intro h
 have := digs_len d _ h
 omega
theorem digs_nil {n : Nat} : (digs n).length = 0 ↔ n = 0 := by
 constructor
 ·intro h
  apply Decidable.byContradiction
  intro h0
  rw [digs_pos h0] at h; simp at h
 ·rintro rfl; rw [digs_zero]; rfl
end Gx.L
end
section
/- Natural numbers as words to the base 2^32: the reference's long division. -/
set_option autoImplicit false
namespace Gx.L
def Sub1 (N g V o i M c : Nat) : Prop := M + g * (V % B32 ^ i) * B32 ^ o = N + c * B32 ^ (o + i) ∧ M / B32 ^ (o + i) = N / B32 ^ (o + i) ∧ c ≤ g
theorem sub1_zero (N g V o : Nat) : Sub1 N g V o 0 N 0 := by
 unfold Sub1; simp [Nat.mod_one]
theorem sub1_p {g y c : Nat} (hg : g < B32) (hy : y < B32) (hc : c ≤ g) : y * g + c < 18446744073709551616 ∧ y * g ≤ 18446744065119617025 ∧ (∀ e, e ≤ 1 → (e = 1 → 0 < (y * g + c) % B32) → (y * g + c) / B32 + e ≤ g) := by
 have h1 : y * g ≤ (B32 - 1) * g := Nat.mul_le_mul_right _ (by omega)
 have h2 : (B32 - 1) * g ≤ (B32 - 1) * (B32 - 1) := Nat.mul_le_mul_left _ (by omega)
 simp only [B32] at *
 refine ⟨by omega, by omega, fun e he hp => ?_⟩
 by_cases h : e = 1
 ·have := hp h; omega
 ·omega
theorem sub1_step (m N g V o i M c : Nat) (hm : o + i < m) (hg : g < B32) (h : Sub1 N g V o i M c) :
  ∃ M', digsN m M' = (digsN m M).set (o + i) (M / B32 ^ (o + i) % B32 + (if M / B32 ^ (o + i) % B32 < (V / B32 ^ i % B32 * g + c) % B32 then 1 else 0) * B32 - (V / B32 ^ i % B32 * g + c) % B32) ∧
   Sub1 N g V o (i + 1) M' ((V / B32 ^ i % B32 * g + c) / B32 + (if M / B32 ^ (o + i) % B32 < (V / B32 ^ i % B32 * g + c) % B32 then 1 else 0)) := by
 obtain ⟨h1, h2, h3⟩ := h
 have hy : V / B32 ^ i % B32 < B32 := Nat.mod_lt _ (by decide)
 have hz : M / B32 ^ (o + i) % B32 < B32 := Nat.mod_lt _ (by decide)
 obtain ⟨p1, p2, p3⟩ := sub1_p hg hy h3
 have ey : V % B32 ^ (i + 1) = V % B32 ^ i + B32 ^ i * (V / B32 ^ i % B32) := Nat.mod_pow_succ
 have epd := Nat.mod_add_div (V / B32 ^ i % B32 * g + c) B32
 have hlow : (V / B32 ^ i % B32 * g + c) % B32 < B32 := Nat.mod_lt _ (by decide)
 have p3' := p3 (if M / B32 ^ (o + i) % B32 < (V / B32 ^ i % B32 * g + c) % B32 then 1 else 0) (by split <;> omega) (by intro he; split at he <;> omega)
 have eb : M / B32 ^ (o + i) % B32 + (if M / B32 ^ (o + i) % B32 < (V / B32 ^ i % B32 * g + c) % B32 then 1 else 0) * B32 = (M / B32 ^ (o + i) % B32 + (if M / B32 ^ (o + i) % B32 < (V / B32 ^ i % B32 * g + c) % B32 then 1 else 0) * B32 - (V / B32 ^ i % B32 * g + c) % B32) + (V / B32 ^ i % B32 * g + c) % B32 := by split <;> omega
 have hw : M / B32 ^ (o + i) % B32 + (if M / B32 ^ (o + i) % B32 < (V / B32 ^ i % B32 * g + c) % B32 then 1 else 0) * B32 - (V / B32 ^ i % B32 * g + c) % B32 < B32 := by split <;> omega
 generalize (if M / B32 ^ (o + i) % B32 < (V / B32 ^ i % B32 * g + c) % B32 then 1 else 0) = e at *
 generalize M / B32 ^ (o + i) % B32 + e * B32 - (V / B32 ^ i % B32 * g + c) % B32 = w at *
 obtain ⟨M', n1, n2, n3⟩ := digs_upd m M (o + i) w hm hw
 refine ⟨M', n1, ?_, ?_, p3'⟩
 ·rw [ey]
  have ep : B32 ^ (o + (i + 1)) = B32 * B32 ^ (o + i) := by rw [← Nat.add_assoc, Nat.pow_succ, Nat.mul_comm]
  have eq : B32 ^ (o + i) = B32 ^ i * B32 ^ o := by rw [Nat.pow_add, Nat.mul_comm]
  rw [ep]
  generalize M / B32 ^ (o + i) % B32 = z at *
  generalize V / B32 ^ i % B32 = y at *
  generalize (y * g + c) % B32 = low at *
  generalize (y * g + c) / B32 = hi at *
  have e4 : g * (V % B32 ^ i + B32 ^ i * y) * B32 ^ o = g * (V % B32 ^ i) * B32 ^ o + y * g * B32 ^ (o + i) := by rw [eq]; grind
  rw [e4]
  generalize B32 ^ (o + i) = X at *
  have e5 : (hi + e) * (B32 * X) = (low + B32 * hi) * X + e * B32 * X - low * X := by
   have : (low + B32 * hi) * X + e * B32 * X = (hi + e) * (B32 * X) + low * X := by grind
   omega
  have e6 : (z + e * B32) * X = (w + low) * X := by rw [eb]
  rw [e5, epd]
  rw [Nat.add_mul, Nat.add_mul] at e6
  rw [Nat.add_mul]
  have hle : low * X ≤ (y * g + c) * X := Nat.mul_le_mul_right _ (by omega)
  rw [Nat.add_mul] at hle
  omega
 ·rw [← Nat.add_assoc, n3, Nat.pow_succ, ← Nat.div_div_eq_div_mul, h2, Nat.div_div_eq_div_mul]
theorem sub1_last (m N g V o n M c : Nat) (hm : o + n < m) (hV : V < B32 ^ n) (hN : N < B32 ^ (o + n + 1)) (hle : g * V * B32 ^ o ≤ N) (h : Sub1 N g V o n M c) :
  c ≤ M / B32 ^ (o + n) % B32 ∧ (digsN m M).set (o + n) (M / B32 ^ (o + n) % B32 - c) = digsN m (N - g * V * B32 ^ o) := by
 obtain ⟨h1, h2, h3⟩ := h
 rw [Nat.mod_eq_of_lt hV] at h1
 have hp : 0 < B32 ^ (o + n) := Nat.pow_pos (by decide)
 have hd : N / B32 ^ (o + n) < B32 := by
  rw [Nat.div_lt_iff_lt_mul hp]
  rw [Nat.pow_succ, Nat.mul_comm] at hN; exact hN
 have hc : c ≤ M / B32 ^ (o + n) := by
  rw [Nat.le_div_iff_mul_le hp]; omega
 have hz : M / B32 ^ (o + n) % B32 = M / B32 ^ (o + n) := Nat.mod_eq_of_lt (by rw [h2]; exact hd)
 rw [hz]
 refine ⟨hc, ?_⟩
 have hM := Nat.mod_add_div M (B32 ^ (o + n))
 have hr := Nat.mod_lt M hp
 have hw : M / B32 ^ (o + n) - c < B32 := by rw [h2]; omega
 have hw2 : M / B32 ^ (o + n) < B32 := by rw [h2]; exact hd
 have e1 : N - g * V * B32 ^ o = M % B32 ^ (o + n) + (M / B32 ^ (o + n) - c) * B32 ^ (o + n) := by
  rw [Nat.sub_mul]
  have : c * B32 ^ (o + n) ≤ M / B32 ^ (o + n) * B32 ^ (o + n) := Nat.mul_le_mul_right _ hc
  have e : B32 ^ (o + n) * (M / B32 ^ (o + n)) = M / B32 ^ (o + n) * B32 ^ (o + n) := Nat.mul_comm _ _
  omega
 have r := digsN_replace m (M % B32 ^ (o + n)) 0 (o + n) (M / B32 ^ (o + n)) (M / B32 ^ (o + n) - c) hm hr hw2 hw
 simp only [Nat.zero_mul, Nat.add_zero] at r
 rw [e1, r]
 congr 1
 rw [Nat.mul_comm] at hM
 rw [hM]
theorem guess_ok (R V k n : Nat) (hn : 1 ≤ n) (hV : V < B32 ^ n) (hV1 : B32 ^ (n - 1) ≤ V) (hR : R < V * B32 ^ (k + 1)) (hb : V ≤ R / B32 ^ k) :
  R < B32 ^ (k + n + 1) ∧ R / B32 ^ (k + n) % B32 * 4294967296 + R / B32 ^ (k + n - 1) % B32 = R / B32 ^ (k + n - 1) ∧ R / B32 ^ (k + n - 1) < 18446744073709551616 ∧ V / B32 ^ (n - 1) % B32 = V / B32 ^ (n - 1) ∧ V / B32 ^ (n - 1) < B32 ∧
   (∀ g, g = max 1 (R / B32 ^ (k + n - 1) / (V / B32 ^ (n - 1) + 1)) → 1 ≤ g ∧ g < B32 ∧ g * V ≤ R / B32 ^ k ∧ g * V * B32 ^ k ≤ R) := by
 have hR2 : R < B32 ^ (k + n + 1) := by
  have h1 : V * B32 ^ (k + 1) ≤ B32 ^ n * B32 ^ (k + 1) := Nat.mul_le_mul_right _ (by omega)
  rw [← Nat.pow_add] at h1
  rw [show k + n + 1 = n + (k + 1) by omega]; omega
 have hp : 0 < B32 ^ (k + n - 1) := Nat.pow_pos (by decide)
 have hpk : 0 < B32 ^ k := Nat.pow_pos (by decide)
 have hp1 : 0 < B32 ^ (n - 1) := Nat.pow_pos (by decide)
 have ek : B32 ^ (k + n) = B32 ^ (k + n - 1) * B32 := by rw [← Nat.pow_succ]; congr 1; omega
 have ek1 : B32 ^ (k + n + 1) = B32 ^ (k + n - 1) * (B32 * B32) := by rw [Nat.pow_succ, ek, Nat.mul_assoc]
 have htop : R / B32 ^ (k + n - 1) < B32 * B32 := by
  rw [Nat.div_lt_iff_lt_mul hp, Nat.mul_comm, ← ek1]; exact hR2
 have hvt : V / B32 ^ (n - 1) < B32 := by
  have e9 : B32 * B32 ^ (n - 1) = B32 ^ n := by rw [Nat.mul_comm, ← Nat.pow_succ]; congr 1; omega
  rw [Nat.div_lt_iff_lt_mul hp1, e9]; exact hV
 have hX : R / B32 ^ (k + n - 1) = R / B32 ^ k / B32 ^ (n - 1) := by
  rw [Nat.div_div_eq_div_mul, ← Nat.pow_add]; congr 2; omega
 have hVt : V < (V / B32 ^ (n - 1) + 1) * B32 ^ (n - 1) := Nat.lt_mul_of_div_lt (Nat.lt_succ_self _) hp1
 have hRk : R / B32 ^ k < V * B32 := by
  rw [Nat.div_lt_iff_lt_mul hpk]
  rw [Nat.pow_succ, Nat.mul_comm (B32 ^ k), ← Nat.mul_assoc] at hR; exact hR
 refine ⟨hR2, ?_, htop, Nat.mod_eq_of_lt hvt, hvt, ?_⟩
 ·rw [ek, ← Nat.div_div_eq_div_mul]
  have := Nat.mod_add_div (R / B32 ^ (k + n - 1)) B32
  show R / B32 ^ (k + n - 1) / B32 % B32 * B32 + R / B32 ^ (k + n - 1) % B32 = R / B32 ^ (k + n - 1)
  have h9 : R / B32 ^ (k + n - 1) / B32 < B32 := Nat.div_lt_of_lt_mul htop
  rw [Nat.mod_eq_of_lt h9, Nat.mul_comm]; omega
 ·rintro g rfl
  have hg1 : R / B32 ^ (k + n - 1) / (V / B32 ^ (n - 1) + 1) < B32 := by
   rw [Nat.div_lt_iff_lt_mul (show 0 < V / B32 ^ (n - 1) + 1 from Nat.succ_pos _)]
   rw [hX, Nat.div_lt_iff_lt_mul hp1]
   have h5 : V * B32 ≤ (V / B32 ^ (n - 1) + 1) * B32 ^ (n - 1) * B32 := Nat.mul_le_mul_right _ (by omega)
   have e5 : B32 * (V / B32 ^ (n - 1) + 1) * B32 ^ (n - 1) = (V / B32 ^ (n - 1) + 1) * B32 ^ (n - 1) * B32 := by grind
   exact Nat.lt_of_lt_of_le hRk (Nat.le_trans h5 (Nat.le_of_eq e5.symm))
  have hgV : max 1 (R / B32 ^ (k + n - 1) / (V / B32 ^ (n - 1) + 1)) * V ≤ R / B32 ^ k := by
   rw [Nat.max_def]
   split
   ·have h6 : R / B32 ^ (k + n - 1) / (V / B32 ^ (n - 1) + 1) * (V / B32 ^ (n - 1) + 1) ≤ R / B32 ^ (k + n - 1) := Nat.div_mul_le_self _ _
    have h7 : R / B32 ^ k / B32 ^ (n - 1) * B32 ^ (n - 1) ≤ R / B32 ^ k := Nat.div_mul_le_self _ _
    rw [← hX] at h7
    have h8 : R / B32 ^ (k + n - 1) / (V / B32 ^ (n - 1) + 1) * V ≤ R / B32 ^ (k + n - 1) / (V / B32 ^ (n - 1) + 1) * ((V / B32 ^ (n - 1) + 1) * B32 ^ (n - 1)) := Nat.mul_le_mul_left _ (by omega)
    have h9 := Nat.mul_le_mul_right (B32 ^ (n - 1)) h6
    rw [Nat.mul_assoc] at h9
    omega
   ·rw [Nat.one_mul]; exact hb
  refine ⟨Nat.le_max_left _ _, ?_, hgV, ?_⟩
  ·have h1B : 1 < B32 := by decide
   omega
  ·exact Nat.le_trans (Nat.mul_le_mul_right _ hgV) (Nat.div_mul_le_self _ _)
structure Long (A V i Q R : Nat) : Prop where
 eq : A = Q * V * B32 ^ i + R
 lt : R < V * B32 ^ i
theorem Long.start {A V na n : Nat} (ha : A < B32 ^ na) (hd : B32 ^ (n - 1) ≤ V) (hn : 1 ≤ n) : Long A V (na + 1 - n) 0 A := by
 refine ⟨by simp, ?_⟩
 by_cases hna : n ≤ na
 ·have h1 : B32 ^ na = B32 ^ (n - 1) * B32 ^ (na + 1 - n) := by rw [← Nat.pow_add]; congr 1; omega
  have h2 : B32 ^ (n - 1) * B32 ^ (na + 1 - n) ≤ V * B32 ^ (na + 1 - n) := Nat.mul_le_mul_right _ hd
  omega
 ·have h1 : B32 ^ na ≤ B32 ^ (n - 1) := Nat.pow_le_pow_right (by decide) (by omega)
  rw [show na + 1 - n = 0 by omega, Nat.pow_zero, Nat.mul_one]; omega
theorem Long.step {A V k Q R g R' : Nat} (h : Long A V (k + 1) Q R) (hg : R = R' + g * V * B32 ^ k) (hlt : R' / B32 ^ k < V) : Long A V k (Q * B32 + g) R' := by
 have hp : 0 < B32 ^ k := Nat.pow_pos (by decide)
 refine ⟨?_, (Nat.div_lt_iff_lt_mul hp).1 hlt⟩
 rw [h.eq, hg, Nat.pow_succ]; grind
theorem Long.fin {A V Q R : Nat} (h : Long A V 0 Q R) : Q = A / V ∧ R = A % V := by
 obtain ⟨h1, h2⟩ := h
 rw [Nat.pow_zero, Nat.mul_one] at h1 h2
 have hV : 0 < V := by omega
 constructor
 ·rw [h1, Nat.mul_comm Q, Nat.mul_add_div hV, Nat.div_eq_of_lt h2, Nat.add_zero]
 ·rw [h1, Nat.mul_comm Q, Nat.mul_add_mod, Nat.mod_eq_of_lt h2]
theorem g_lt {V R R' g k : Nat} (hV : 0 < V) (hR : R < V * B32 ^ (k + 1)) (hg : R = R' + g * V * B32 ^ k) : g < B32 := by
 have hp : 0 < V * B32 ^ k := Nat.mul_pos hV (Nat.pow_pos (by decide))
 have e : V * B32 ^ (k + 1) = B32 * (V * B32 ^ k) := by rw [Nat.pow_succ]; grind
 have e2 : g * V * B32 ^ k = g * (V * B32 ^ k) := Nat.mul_assoc _ _ _
 apply Nat.lt_of_mul_lt_mul_right (a := V * B32 ^ k)
 omega
theorem long_set (m Q g g' k : Nat) (hk : k < m) (hg : g < B32) (hg' : g' < B32) : digsN m ((Q * B32 + g') * B32 ^ k) = (digsN m ((Q * B32 + g) * B32 ^ k)).set k g' := by
 have hp : 0 < B32 ^ k := Nat.pow_pos (by decide)
 have h := digsN_replace m 0 Q k g g' hk hp hg hg'
 simp only [Nat.zero_add] at h
 have e : ∀ x, (Q * B32 + x) * B32 ^ k = x * B32 ^ k + Q * B32 ^ (k + 1) := by intro x; rw [Nat.pow_succ]; grind
 rw [e, e, h]
theorem long_get (m Q g k : Nat) (hk : k < m) (hg : g < B32) : (digsN m ((Q * B32 + g) * B32 ^ k))[k]? = some g := by
 rw [digsN_get _ _ _ hk, Nat.mul_div_cancel _ (Nat.pow_pos (by decide))]
 congr 1; simp only [B32] at *; omega
end Gx.L
end
