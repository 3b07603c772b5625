/- Lemmas for the row: plain facts, or contracts of functions. -/
set_option linter.all false
section
/- Natural numbers as words and as q0b. -/
set_option autoImplicit false
namespace Gx

abbrev B64 : Nat := 18446744073709551616

def digs (n : Nat) : List Nat := if h : n = 0 then [] else n % B64 :: digs (n / B64)
termination_by n
decreasing_by exact Nat.div_lt_self (Nat.pos_of_ne_zero h) (by decide)

def digsN : Nat → Nat → List Nat
 | 0, _ => []
 | m + 1, n => n % B64 :: digsN m (n / B64)

def wval : List Nat → Nat
 | [] => 0
 | w :: ws => w + B64 * wval ws

theorem digs_zero : digs 0 = [] := by unfold digs; simp
theorem digs_pos {n : Nat} (h : n ≠ 0) : digs n = n % B64 :: digs (n / B64) := by rw [digs]; simp [h]
theorem wval_digs (n : Nat) : wval (digs n) = n := by
 induction n using Nat.strongRecOn with
 | _ n ih =>
  by_cases h : n = 0
  ·subst h; rw [digs_zero]; rfl
  ·rw [digs_pos h, wval, ih _ (Nat.div_lt_self (Nat.pos_of_ne_zero h) (by decide))]
   exact Nat.mod_add_div n B64
theorem digsN_len (m n : Nat) : (digsN m n).length = m := by
 induction m generalizing n with
 | zero => rfl
 | succ m ih => simp [digsN, ih]
theorem wval_digsN (m n : Nat) : wval (digsN m n) = n % B64 ^ m := by
 induction m generalizing n with
 | zero => simp [digsN, wval, Nat.mod_one]
 | succ m ih =>
  rw [digsN, wval, ih, Nat.pow_succ, Nat.mul_comm (B64 ^ m) B64, Nat.mod_mul]
theorem digsN_get (m n j : Nat) (h : j < m) : (digsN m n)[j]? = some (n / B64 ^ j % B64) := by
 induction m generalizing n j with
 | zero => omega
 | succ m ih =>
  cases j with
  | zero => simp [digsN]
  | succ j =>
   rw [digsN, List.getElem?_cons_succ, ih _ _ (by omega), Nat.div_div_eq_div_mul, Nat.pow_succ, Nat.mul_comm (B64 ^ j)]
theorem digsN_lt (m n : Nat) : ∀ w ∈ digsN m n, w < B64 := by
 induction m generalizing n with
 | zero => intro w h; simp [digsN] at h
 | succ m ih =>
  intro w h
  rw [digsN, List.mem_cons] at h
  rcases h with rfl | h
  ·exact Nat.mod_lt _ (by decide)
  ·exact ih _ _ h
theorem digs_lt (n : Nat) : ∀ w ∈ digs n, w < B64 := by
 induction n using Nat.strongRecOn with
 | _ n ih =>
  intro w h
  by_cases h0 : n = 0
  ·subst h0; simp [digs_zero] at h
  ·rw [digs_pos h0, List.mem_cons] at h
   rcases h with rfl | h
   ·exact Nat.mod_lt _ (by decide)
   ·exact ih _ (Nat.div_lt_self (Nat.pos_of_ne_zero h0) (by decide)) _ h
theorem digsN_set (m n j w : Nat) (h : j < m) (hw : n / B64 ^ j % B64 + w < B64) : digsN m (n + w * B64 ^ j) = (digsN m n).set j (n / B64 ^ j % B64 + w) := by
 induction m generalizing n j with
 | zero => omega
 | succ m ih =>
  cases j with
  | zero =>
   simp only [Nat.pow_zero, Nat.div_one, Nat.mul_one, digsN, List.set_cons_zero] at *
   have e1 : (n + w) % B64 = n % B64 + w := by simp only [B64] at *; omega
   have e2 : (n + w) / B64 = n / B64 := by simp only [B64] at *; omega
   rw [e1, e2]
  | succ j =>
   have e0 : w * B64 ^ (j + 1) = B64 * (w * B64 ^ j) := by rw [Nat.pow_succ]; grind
   have e3 : n / B64 ^ (j + 1) = n / B64 / B64 ^ j := by rw [Nat.div_div_eq_div_mul, Nat.pow_succ, Nat.mul_comm (B64 ^ j)]
   rw [e3] at hw ⊢
   rw [digsN, digsN, List.set_cons_succ, ← ih _ _ (by omega) hw, e0, Nat.add_mul_mod_self_left, Nat.add_mul_div_left _ _ (by decide)]

theorem digs_wval (ws : List Nat) (hl : ∀ w ∈ ws, w < B64) (h0 : ∀ w ∈ ws.getLast?, w ≠ 0) : digs (wval ws) = ws := by
 induction ws with
 | nil => rw [wval, digs_zero]
 | cons w ws ih =>
  have hw : w < B64 := hl w List.mem_cons_self
  have ih' := ih (fun x hx => hl x (List.mem_cons_of_mem _ hx)) (by
   intro x hx
   cases ws with
   | nil => simp at hx
   | cons y ys => exact h0 x (by rw [List.getLast?_cons_cons]; exact hx))
  have hne : wval (w :: ws) ≠ 0 := by
   cases ws with
   | nil =>
    have := h0 w (by simp)
    simp only [wval]; omega
   | cons y ys =>
    intro hz
    have h1 : wval (y :: ys) = 0 := by
     simp only [wval, B64] at hz ⊢; omega
    rw [h1, digs_zero] at ih'
    simp at ih'
  rw [digs_pos hne, wval]
  rw [Nat.add_mul_mod_self_left, Nat.mod_eq_of_lt hw, Nat.add_mul_div_left _ _ (by decide), Nat.div_eq_of_lt hw, Nat.zero_add, ih']

def q1h (ws : List Nat) : Nat → Nat
 | 0 => 0
 | k + 1 => if ws.getD k 0 = 0 then q1h ws k else k + 1
theorem q2v (ws : List Nat) (k : Nat) : q1h ws k ≤ k := by
 induction k with
 | zero => exact Nat.le_refl _
 | succ k ih => unfold q1h; split <;> omega
theorem wval_append (a b : List Nat) : wval (a ++ b) = wval a + B64 ^ a.length * wval b := by
 induction a with
 | nil => simp [wval]
 | cons x a ih => simp only [List.cons_append, wval, ih, List.length_cons, Nat.pow_succ]; grind
theorem take_trimTo (ws : List Nat) (hl : ∀ w ∈ ws, w < B64) (k : Nat) (hk : k ≤ ws.length) : ws.take (q1h ws k) = digs (wval (ws.take k)) := by
 induction k with
 | zero => simp [q1h, wval, digs_zero]
 | succ k ih =>
  have hk' : k < ws.length := by omega
  have hg : ws.getD k 0 = ws[k] := by simp [List.getD, hk']
  have ht : ws.take (k + 1) = ws.take k ++ [ws[k]] := by rw [List.take_add_one]; simp [hk']
  unfold q1h
  rw [hg]
  split
  ·rename_i hz
   rw [ih (by omega), ht, hz, wval_append]; simp [wval]
  ·rename_i hz
   rw [digs_wval]
   ·intro w hw; exact hl w (List.mem_of_mem_take hw)
   ·intro w hw
    rw [ht, List.getLast?_append, List.getLast?_singleton, Option.some_or, Option.mem_some_iff] at hw
    rw [← hw]; exact hz
theorem trim_eq (ws : List Nat) (hl : ∀ w ∈ ws, w < B64) : ws.take (q1h ws ws.length) = digs (wval ws) := by
 rw [take_trimTo ws hl _ (Nat.le_refl _), List.take_length]
theorem trim_len (ws : List Nat) (hl : ∀ w ∈ ws, w < B64) : q1h ws ws.length = (digs (wval ws)).length := by
 rw [← trim_eq ws hl, List.length_take, Nat.min_eq_left (q2v _ _)]


def bval (l : List UInt8) : Nat := l.foldl (fun a b => a * 256 + b.toNat) 0
theorem q8o (l : List UInt8) (b : UInt8) : bval (l ++ [b]) = bval l * 256 + b.toNat := by simp [bval]
def q0b (n : Nat) : List UInt8 := if h : n = 0 then [] else q0b (n / 256) ++ [UInt8.ofNat (n % 256)]
termination_by n
decreasing_by exact Nat.div_lt_self (Nat.pos_of_ne_zero h) (by decide)
theorem q1c : q0b 0 = [] := by unfold q0b; simp
theorem q5t {n : Nat} (h : n ≠ 0) : q0b n = q0b (n / 256) ++ [UInt8.ofNat (n % 256)] := by rw [q0b]; simp [h]
theorem q1d (n : Nat) : bval (q0b n) = n := by
 induction n using Nat.strongRecOn with
 | _ n ih =>
  by_cases h : n = 0
  ·subst h; rw [q1c]; rfl
  ·rw [q5t h, q8o, ih _ (Nat.div_lt_self (Nat.pos_of_ne_zero h) (by decide))]
   simp; omega

theorem word_step (A b r : Nat) (hr : r < 8) (hb : b < 256) : (A * 256 ^ (r + 1) % B64 ||| b * 256 ^ r) = A * 256 ^ (r + 1) % B64 + b * 256 ^ r ∧ A * 256 ^ (r + 1) % B64 + b * 256 ^ r < B64 := by
 have h1 : b * 256 ^ r < 2 ^ (8 * r + 8) := by
  have : (2 : Nat) ^ (8 * r + 8) = 256 * 256 ^ r := by
   rw [show 8 * r + 8 = 8 * (r + 1) by omega, Nat.pow_mul, Nat.pow_succ, Nat.mul_comm]
  rw [this]
  exact Nat.mul_lt_mul_of_pos_right hb (Nat.pow_pos (by decide))
 have h2 : ∃ q, A * 256 ^ (r + 1) % B64 = 2 ^ (8 * r + 8) * q ∧ 2 ^ (8 * r + 8) * q + 2 ^ (8 * r + 8) ≤ B64 := by
  have : r = 0 ∨ r = 1 ∨ r = 2 ∨ r = 3 ∨ r = 4 ∨ r = 5 ∨ r = 6 ∨ r = 7 := by omega
  simp only [B64]
  rcases this with rfl | rfl | rfl | rfl | rfl | rfl | rfl | rfl
  ·exact ⟨A % 72057594037927936, by simp only [Nat.reducePow, Nat.reduceMul, Nat.reduceAdd]; omega, by simp only [Nat.reducePow, Nat.reduceMul, Nat.reduceAdd]; omega⟩
  ·exact ⟨A % 281474976710656, by simp only [Nat.reducePow, Nat.reduceMul, Nat.reduceAdd]; omega, by simp only [Nat.reducePow, Nat.reduceMul, Nat.reduceAdd]; omega⟩
  ·exact ⟨A % 1099511627776, by simp only [Nat.reducePow, Nat.reduceMul, Nat.reduceAdd]; omega, by simp only [Nat.reducePow, Nat.reduceMul, Nat.reduceAdd]; omega⟩
  ·exact ⟨A % 4294967296, by simp only [Nat.reducePow, Nat.reduceMul, Nat.reduceAdd]; omega, by simp only [Nat.reducePow, Nat.reduceMul, Nat.reduceAdd]; omega⟩
  ·exact ⟨A % 16777216, by simp only [Nat.reducePow, Nat.reduceMul, Nat.reduceAdd]; omega, by simp only [Nat.reducePow, Nat.reduceMul, Nat.reduceAdd]; omega⟩
  ·exact ⟨A % 65536, by simp only [Nat.reducePow, Nat.reduceMul, Nat.reduceAdd]; omega, by simp only [Nat.reducePow, Nat.reduceMul, Nat.reduceAdd]; omega⟩
  ·exact ⟨A % 256, by simp only [Nat.reducePow, Nat.reduceMul, Nat.reduceAdd]; omega, by simp only [Nat.reducePow, Nat.reduceMul, Nat.reduceAdd]; omega⟩
  ·exact ⟨0, by simp only [Nat.reducePow, Nat.reduceMul, Nat.reduceAdd]; omega, by simp only [Nat.reducePow, Nat.reduceMul, Nat.reduceAdd]; omega⟩
 obtain ⟨q, hq, hq2⟩ := h2
 rw [hq]
 exact ⟨(Nat.two_pow_add_eq_or_of_lt h1 q).symm, by omega⟩

theorem pow256 (k : Nat) : 256 ^ k = 256 ^ (k % 8) * B64 ^ (k / 8) := by
 conv => lhs; rw [← Nat.mod_add_div k 8]
 rw [Nat.pow_add, Nat.pow_mul]

def q6m (l : List UInt8) (i : Nat) : List Nat := digsN ((l.length + 7) / 8) (bval (l.take i) * 256 ^ (l.length - i))
theorem wfill_zero (l : List UInt8) : q6m l 0 = List.replicate ((l.length + 7) / 8) 0 := by
 unfold q6m
 rw [List.take_zero, show bval [] = 0 from rfl, Nat.zero_mul]
 generalize (l.length + 7) / 8 = m
 induction m with
 | zero => rfl
 | succ m ih => rw [digsN, List.replicate_succ, Nat.zero_div, ih]; rfl
theorem bval_take (l : List UInt8) (i : Nat) (h : i < l.length) : bval (l.take (i + 1)) = bval (l.take i) * 256 + l[i].toNat := by
 rw [List.take_add_one, List.getElem?_eq_getElem h, Option.toList_some, q8o]
theorem wfill_get (l : List UInt8) (i : Nat) (h : i < l.length) : ∃ h' : (l.length - 1 - i) / 8 < (q6m l i).length, (q6m l i)[(l.length - 1 - i) / 8] = bval (l.take i) * 256 ^ ((l.length - 1 - i) % 8 + 1) % B64 := by
 have h1 : (l.length - 1 - i) / 8 < (l.length + 7) / 8 := by omega
 have h2 := digsN_get ((l.length + 7) / 8) (bval (l.take i) * 256 ^ (l.length - i)) _ h1
 refine ⟨by unfold q6m; rw [digsN_len]; exact h1, ?_⟩
 rw [List.getElem?_eq_some_iff] at h2
 obtain ⟨h3, h4⟩ := h2
 unfold q6m
 rw [h4]
 congr 1
 have e : l.length - i = (l.length - 1 - i) + 1 := by omega
 rw [e, Nat.pow_succ, pow256 (l.length - 1 - i), Nat.pow_succ]
 generalize l.length - 1 - i = k
 have : bval (l.take i) * (256 ^ (k % 8) * B64 ^ (k / 8) * 256) = bval (l.take i) * (256 ^ (k % 8) * 256) * B64 ^ (k / 8) := by grind
 rw [this, Nat.mul_div_cancel _ (Nat.pow_pos (by decide))]
theorem wfill_succ (l : List UInt8) (i : Nat) (h : i < l.length) : q6m l (i + 1) = (q6m l i).set ((l.length - 1 - i) / 8) (bval (l.take i) * 256 ^ ((l.length - 1 - i) % 8 + 1) % B64 ||| l[i].toNat * 256 ^ ((l.length - 1 - i) % 8)) := by
 have hb : l[i].toNat < 256 := l[i].toNat_lt
 obtain ⟨s1, s2⟩ := word_step (bval (l.take i)) l[i].toNat ((l.length - 1 - i) % 8) (by omega) hb
 obtain ⟨h3, h4⟩ := wfill_get l i h
 have h1 : (l.length - 1 - i) / 8 < (l.length + 7) / 8 := by omega
 rw [s1]
 have e5 : bval (l.take i) * 256 ^ (l.length - i) / B64 ^ ((l.length - 1 - i) / 8) % B64 = bval (l.take i) * 256 ^ ((l.length - 1 - i) % 8 + 1) % B64 := by
  have h2 := digsN_get ((l.length + 7) / 8) (bval (l.take i) * 256 ^ (l.length - i)) _ h1
  rw [List.getElem?_eq_some_iff] at h2
  obtain ⟨h6, h7⟩ := h2
  rw [← h7]; exact h4
 have := digsN_set ((l.length + 7) / 8) (bval (l.take i) * 256 ^ (l.length - i)) ((l.length - 1 - i) / 8) (l[i].toNat * 256 ^ ((l.length - 1 - i) % 8)) h1 (by rw [e5]; exact s2)
 rw [e5] at this
 unfold q6m
 rw [← this, bval_take l i h]
 congr 1
 have e : l.length - i = (l.length - 1 - i) + 1 := by omega
 have e' : l.length - (i + 1) = l.length - 1 - i := by omega
 rw [e, e', Nat.mul_assoc, ← pow256, Nat.pow_succ]
 grind
theorem q5v (l : List UInt8) : bval l < 256 ^ l.length := by
 have : ∀ i, i ≤ l.length → bval (l.take i) < 256 ^ i := by
  intro i
  induction i with
  | zero => intro _; simp [bval]
  | succ i ih =>
   intro h
   have := ih (by omega)
   have hb : (l[i]'(by omega)).toNat < 256 := (l[i]'(by omega)).toNat_lt
   rw [bval_take l i (by omega), Nat.pow_succ]
   omega
 have h := this l.length (Nat.le_refl _)
 rwa [List.take_length] at h
theorem wval_wfill (l : List UInt8) : wval (q6m l l.length) = bval l := by
 unfold q6m
 rw [wval_digsN, Nat.sub_self, Nat.pow_zero, Nat.mul_one, List.take_length]
 apply Nat.mod_eq_of_lt
 refine Nat.lt_of_lt_of_le (q5v l) ?_
 rw [show B64 = 256 ^ 8 from rfl, ← Nat.pow_mul]
 exact Nat.pow_le_pow_right (by decide) (by omega)
theorem wfill_lt (l : List UInt8) (i : Nat) : ∀ w ∈ q6m l i, w < B64 := digsN_lt _ _
theorem w0z (l : List UInt8) (i : Nat) : (q6m l i).length = (l.length + 7) / 8 := digsN_len _ _
end Gx
end
