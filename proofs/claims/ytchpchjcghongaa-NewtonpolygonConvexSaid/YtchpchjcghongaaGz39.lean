/- Lemmas for Convex, part 39: an interpreter without world and addresses agrees with the given semantics; contracts of the functions that are reached. -/
import Derived.Test.YtchpchjcghongaaGz17
set_option linter.all false
set_option linter.unusedVariables false
set_option linter.unusedSimpArgs false
set_option linter.unnecessarySimpa false
set_option linter.deprecated false
section
/- The lower hull. -/
set_option autoImplicit false
namespace Gx
/-- Where the slope from a to b is less than that from c to d. -/
def dd (a b c d : Vtx) : Int := (b.x - a.x) * (d.y - c.y) - (b.y - a.y) * (d.x - c.x)
theorem pos_of_mul {v t : Int} (hv : 0 < v) (h : 0 < v * t) : 0 < t := by
  apply Int.lt_of_not_ge
  intro ht
  have := Int.mul_le_mul_of_nonneg_left ht (Int.le_of_lt hv)
  rw [Int.mul_zero] at this; omega
theorem nonneg_of_mul {v t : Int} (hv : 0 < v) (h : 0 ≤ v * t) : 0 ≤ t := by
  apply Int.le_of_not_gt
  intro ht
  have := Int.mul_lt_mul_of_pos_left ht hv
  rw [Int.mul_zero] at this; omega
theorem tr_id (u v w p q r : Int) : v * (u * r - p * w) = u * (v * r - q * w) + w * (u * q - p * v) := by grind
theorem dd_lt {a b c d e f : Vtx} (h1 : a.x < b.x) (h2 : c.x < d.x) (h3 : e.x < f.x) (k1 : 0 < dd a b c d) (k2 : 0 < dd c d e f) : 0 < dd a b e f := by
  unfold dd at *
  refine pos_of_mul (v := d.x - c.x) (by omega) ?_
  rw [tr_id (b.x - a.x) (d.x - c.x) (f.x - e.x) (b.y - a.y) (d.y - c.y) (f.y - e.y)]
  have := Int.mul_pos (show 0 < b.x - a.x by omega) k2
  have := Int.mul_pos (show 0 < f.x - e.x by omega) k1
  omega
theorem dd_le_lt {a b c d e f : Vtx} (h1 : a.x < b.x) (h2 : c.x < d.x) (h3 : e.x < f.x) (k1 : 0 ≤ dd a b c d) (k2 : 0 < dd c d e f) : 0 < dd a b e f := by
  unfold dd at *
  refine pos_of_mul (v := d.x - c.x) (by omega) ?_
  rw [tr_id (b.x - a.x) (d.x - c.x) (f.x - e.x) (b.y - a.y) (d.y - c.y) (f.y - e.y)]
  have := Int.mul_pos (show 0 < b.x - a.x by omega) k2
  have := Int.mul_nonneg (show 0 ≤ f.x - e.x by omega) k1
  omega
theorem dd_lt_le {a b c d e f : Vtx} (h1 : a.x < b.x) (h2 : c.x < d.x) (h3 : e.x < f.x) (k1 : 0 < dd a b c d) (k2 : 0 ≤ dd c d e f) : 0 < dd a b e f := by
  unfold dd at *
  refine pos_of_mul (v := d.x - c.x) (by omega) ?_
  rw [tr_id (b.x - a.x) (d.x - c.x) (f.x - e.x) (b.y - a.y) (d.y - c.y) (f.y - e.y)]
  have := Int.mul_nonneg (show 0 ≤ b.x - a.x by omega) k2
  have := Int.mul_pos (show 0 < f.x - e.x by omega) k1
  omega
theorem dd_le {a b c d e f : Vtx} (h1 : a.x < b.x) (h2 : c.x < d.x) (h3 : e.x < f.x) (k1 : 0 ≤ dd a b c d) (k2 : 0 ≤ dd c d e f) : 0 ≤ dd a b e f := by
  unfold dd at *
  refine nonneg_of_mul (v := d.x - c.x) (by omega) ?_
  rw [tr_id (b.x - a.x) (d.x - c.x) (f.x - e.x) (b.y - a.y) (d.y - c.y) (f.y - e.y)]
  have := Int.mul_nonneg (show 0 ≤ b.x - a.x by omega) k2
  have := Int.mul_nonneg (show 0 ≤ f.x - e.x by omega) k1
  omega
theorem dd_anti (a b c d : Vtx) : dd a b c d = -dd c d a b := by unfold dd; grind
theorem dd_neg (a b c d : Vtx) : dd a b c d = -dd a b d c := by unfold dd; grind
theorem dd_add (a b c d e : Vtx) : dd a b c e = dd a b c d + dd a b d e := by unfold dd; grind
theorem dd_self (a b : Vtx) : dd a b a b = 0 := by unfold dd; grind
/-- The point c lies above the line from a to b where this is positive. -/
def cr (a b c : Vtx) : Int := dd a b b c
theorem cr_eq (a b c : Vtx) : cr a b c = dd a b a c := by
  unfold cr; rw [dd_add a b a b c, dd_self]; omega
theorem overB_cr (a b c : Vtx) : overB a b c = decide (cr a b c ≤ 0) := by
  unfold overB
  rw [cr_eq]
  apply decide_eq_decide.2
  unfold dd
  constructor
  · intro h
    have : (c.y - a.y) * (b.x - a.x) = (b.x - a.x) * (c.y - a.y) := Int.mul_comm _ _
    omega
  · intro h
    have : (c.y - a.y) * (b.x - a.x) = (b.x - a.x) * (c.y - a.y) := Int.mul_comm _ _
    omega
theorem cr_next {a b c d : Vtx} (h1 : a.x < b.x) (h2 : b.x < c.x) (h3 : c.x < d.x) (k1 : 0 < cr a b c) (k2 : 0 < cr b c d) : 0 < cr a b d := by
  unfold cr at *
  have := dd_lt h1 h2 h3 k1 k2
  rw [dd_add a b b c d]; omega
abbrev v0 : Vtx := ⟨0, 0⟩
/-- What holds of the hull of the points so far. -/
structure HI (l out : List Vtx) : Prop where
  sub : out.Sublist l
  chain : ∀ i, i + 2 < out.length → 0 < cr (out.getD i v0) (out.getD (i + 1) v0) (out.getD (i + 2) v0)
  above : ∀ i, i + 1 < out.length → ∀ k ∈ l, 0 ≤ cr (out.getD i v0) (out.getD (i + 1) v0) k
  first : ∀ k ∈ l, 0 < out.length ∧ (out.getD 0 v0).x ≤ k.x
  last : ∀ k ∈ l, k.x ≤ (out.getD (out.length - 1) v0).x
theorem popTo_spec (out : List Vtx) (x : Vtx) (n : Nat) : (0 < n → 1 ≤ popTo out x n) ∧ (2 ≤ popTo out x n → 0 < cr (out.getD (popTo out x n - 2) v0) (out.getD (popTo out x n - 1) v0) x) ∧
    (popTo out x n < n → 1 ≤ popTo out x n ∧ cr (out.getD (popTo out x n - 1) v0) (out.getD (popTo out x n) v0) x ≤ 0) := by
  induction n with
  | zero => exact ⟨fun h => by omega, fun h => by simp [popTo] at h, fun h => by simp [popTo] at h⟩
  | succ n ih =>
    cases n with
    | zero => exact ⟨fun _ => Nat.le_refl _, fun h => by simp [popTo] at h, fun h => by simp [popTo] at h⟩
    | succ k =>
      have e : popTo out x (k + 1 + 1) = if overB (out.getD k v0) (out.getD (k + 1) v0) x = true then popTo out x (k + 1) else k + 2 := rfl
      rw [overB_cr] at e
      by_cases hc : cr (out.getD k v0) (out.getD (k + 1) v0) x ≤ 0
      · rw [if_pos (decide_eq_true hc)] at e
        rw [e]
        refine ⟨fun _ => ih.1 (by omega), ih.2.1, fun h => ?_⟩
        have hle := popTo_le out x (k + 1)
        by_cases heq : popTo out x (k + 1) = k + 1
        · rw [heq, Nat.add_sub_cancel]; exact ⟨by omega, hc⟩
        · exact ih.2.2 (by omega)
      · rw [if_neg (by simpa using hc)] at e
        rw [e]
        exact ⟨fun _ => by omega, fun _ => by rw [Nat.add_sub_cancel, show k + 2 - 1 = k + 1 by omega]; omega, fun h => by omega⟩
theorem getD_mem {l : List Vtx} {i : Nat} (h : i < l.length) : l.getD i v0 ∈ l := by
  simp only [List.getD, List.getElem?_eq_getElem h, Option.getD_some]
  exact List.getElem_mem h
theorem inc_getD {l : List Vtx} (h : l.Pairwise (fun a b => a.x < b.x)) {i j : Nat} (hij : i < j) (hj : j < l.length) : (l.getD i v0).x < (l.getD j v0).x := by
  have hi : i < l.length := by omega
  simp only [List.getD, List.getElem?_eq_getElem hi, List.getElem?_eq_getElem hj, Option.getD_some]
  exact List.pairwise_iff_getElem.1 h i j hi hj hij
theorem inc_eq {l : List Vtx} (h : l.Pairwise (fun a b => a.x < b.x)) {a b : Vtx} (ha : a ∈ l) (hb : b ∈ l) (he : a.x = b.x) : a = b := by
  obtain ⟨i, hi, rfl⟩ := List.getElem_of_mem ha
  obtain ⟨j, hj, rfl⟩ := List.getElem_of_mem hb
  rcases Nat.lt_trichotomy i j with h1 | h1 | h1
  · have := List.pairwise_iff_getElem.1 h i j hi hj h1; omega
  · subst h1; rfl
  · have := List.pairwise_iff_getElem.1 h j i hj hi h1; omega
theorem HI.step {l out : List Vtx} {x : Vtx} (h : HI l out) (hl : l.Pairwise (fun a b => a.x < b.x)) (hx : ∀ k ∈ l, k.x < x.x) : HI (l ++ [x]) (hullStep out x) := by
  obtain ⟨s1, s2, s3⟩ := popTo_spec out x out.length
  have sle := popTo_le out x out.length
  have hol := hl.sublist h.sub
  have hmem : ∀ i, i < out.length → out.getD i v0 ∈ l := fun i hi => h.sub.subset (getD_mem hi)
  unfold hullStep
  generalize popTo out x out.length = m at *
  have hlen : (out.take m ++ [x]).length = m + 1 := by rw [List.length_append, List.length_take, Nat.min_eq_left sle]; rfl
  have hget : ∀ i, i < m → (out.take m ++ [x]).getD i v0 = out.getD i v0 := by
    intro i hi
    simp only [List.getD]
    rw [List.getElem?_append_left (by rw [List.length_take]; omega), List.getElem?_take_of_lt hi]
  have hgetx : (out.take m ++ [x]).getD m v0 = x := by
    simp only [List.getD]
    rw [List.getElem?_append_right (by rw [List.length_take]; omega), List.length_take, Nat.min_eq_left sle, Nat.sub_self]; rfl
  have hxabove : ∀ n i, i + 2 + n = m → 0 < cr (out.getD i v0) (out.getD (i + 1) v0) x := by
    intro n
    induction n with
    | zero =>
      intro i hi
      have := s2 (by omega)
      rw [show m - 2 = i by omega, show m - 1 = i + 1 by omega] at this
      exact this
    | succ n ih =>
      intro i hi
      have h1 := ih (i + 1) (by omega)
      exact cr_next (inc_getD hol (by omega) (by omega)) (inc_getD hol (by omega) (by omega)) (hx _ (hmem _ (by omega))) (h.chain i (by omega)) h1
  refine ⟨?_, ?_, ?_, ?_, ?_⟩
  · exact List.Sublist.append ((List.take_sublist _ _).trans h.sub) (List.Sublist.refl _)
  · intro i hi
    rw [hlen] at hi
    rw [hget i (by omega), hget (i + 1) (by omega)]
    by_cases h2 : i + 2 < m
    · rw [hget (i + 2) h2]; exact h.chain i (by omega)
    · rw [show i + 2 = m by omega, hgetx]; exact hxabove 0 i (by omega)
  · intro i hi k hk
    rw [hlen] at hi
    rw [hget i (by omega)]
    by_cases h2 : i + 1 < m
    · rw [hget (i + 1) h2]
      rcases List.mem_append.1 hk with hk | hk
      · exact h.above i (by omega) k hk
      · simp only [List.mem_singleton] at hk
        subst hk
        exact Int.le_of_lt (hxabove (m - (i + 2)) i (by omega))
    · have him : i + 1 = m := by omega
      rw [him, hgetx]
      have hvl := hmem i (by omega)
      have hvx := hx _ hvl
      rcases List.mem_append.1 hk with hk | hk
      · rcases Int.lt_trichotomy k.x (out.getD i v0).x with hc | hc | hc
        · -- k lies left of v
          by_cases hi0 : i = 0
          · subst hi0
            have := (h.first k hk).2
            omega
          · obtain ⟨j, rfl⟩ : ∃ j, i = j + 1 := ⟨i - 1, by omega⟩
            have h3 := h.above j (by omega) k hk
            have h4 := hxabove 0 j (by omega)
            have h5 := inc_getD hol (show j < j + 1 by omega) (by omega)
            generalize out.getD j v0 = u at *
            generalize out.getD (j + 1) v0 = v at *
            unfold cr at h3 h4
            have h6 : 0 ≤ dd k v u v := by
              rw [dd_anti, dd_neg]; omega
            have h7 := dd_le_lt hc h5 hvx h6 h4
            rw [cr_eq, dd_neg, dd_anti] ; omega
        · have := inc_eq hl hk hvl hc
          subst this
          rw [cr_eq]
          unfold dd
          simp
        · have hml : m < out.length := by
            apply Nat.lt_of_not_le
            intro hc2
            have := h.last k hk
            rw [show out.length - 1 = i by omega] at this
            omega
          obtain ⟨_, h8⟩ := s3 hml
          rw [show m - 1 = i by omega] at h8
          have h9 := h.above i (by omega) k hk
          rw [him] at h9
          have h10 := inc_getD hol (show i < m by omega) hml
          rw [cr_eq] at h8 h9 ⊢
          have h11 : 0 ≤ dd (out.getD i v0) x (out.getD i v0) (out.getD m v0) := by rw [dd_anti]; omega
          exact dd_le hvx h10 hc h11 h9
      · simp only [List.mem_singleton] at hk
        subst hk
        unfold cr dd
        simp
  · intro k hk
    rw [hlen]
    refine ⟨by omega, ?_⟩
    by_cases hm : m = 0
    · have hol0 : out.length = 0 := by
        apply Nat.eq_zero_of_not_pos
        intro h0
        have := s1 h0; omega
      have h0 : l = [] := by
        cases l with
        | nil => rfl
        | cons y r =>
          have := (h.first y (by simp)).1; omega
      subst h0
      simp only [List.nil_append, List.mem_singleton] at hk
      subst hk
      rw [hm] at hgetx
      rw [hm, hgetx]; exact Int.le_refl _
    · rw [hget 0 (by omega)]
      rcases List.mem_append.1 hk with hk | hk
      · exact (h.first k hk).2
      · simp only [List.mem_singleton] at hk
        subst hk
        exact Int.le_of_lt (hx _ (hmem 0 (by omega)))
  · intro k hk
    rw [hlen, Nat.add_sub_cancel, hgetx]
    rcases List.mem_append.1 hk with hk | hk
    · exact Int.le_of_lt (hx k hk)
    · simp only [List.mem_singleton] at hk
      subst hk; exact Int.le_refl _
theorem hull_HI (l : List Vtx) (hl : l.Pairwise (fun a b => a.x < b.x)) : HI l (hull l) := by
  have key : ∀ n, n ≤ l.length → HI (l.take n) (hull (l.take n)) := by
    intro n
    induction n with
    | zero => intro _; exact ⟨by simp [hull], fun i h => by simp [hull] at h, fun i h => by simp [hull] at h, fun k h => by simp at h, fun k h => by simp at h⟩
    | succ n ih =>
      intro hn
      have h1 := ih (by omega)
      have h2 := h1.step (hl.sublist (List.take_sublist _ _)) (x := l[n]) (by
        intro k hk
        obtain ⟨i, hi, rfl⟩ := List.getElem_of_mem hk
        rw [List.length_take] at hi
        rw [List.getElem_take]
        exact List.pairwise_iff_getElem.1 hl i n (by omega) (by omega) (by omega))
      rw [hull_take l n (by omega), List.take_add_one, List.getElem?_eq_getElem (by omega), Option.toList_some]
      exact h2
  have := key l.length (Nat.le_refl _)
  rw [List.take_length] at this
  exact this
end Gx
end
section
set_option autoImplicit false
namespace Gx
open Go Go.Proofs
set_option maxRecDepth 10000
/-- Is it a polynomial of a degree of at most n with numbers of at most 8 bytes? -/
def fewB (f : List RI) (n : Nat) : Bool := decide (f.length ≤ n + 1) && (decide (ckL f = 0) && f.all fun x => decide (x.abs.length ≤ 8))
theorem all_take (f : List RI) (c : RI → Bool) (h : ∀ j (hj : j < f.length), c f[j] = true) : f.all c = true := by
  rw [List.all_eq_true]
  intro x hx
  obtain ⟨j, hj, rfl⟩ := List.getElem_of_mem hx
  exact h j hj
theorem r11_Few (lk : Nat) (H : Heap) (a : Option Addr) (f : List RI) (m n : Nat) (hm : m = f.length) (hl : m ≤ 9223372036854775807) (hn : n ≤ 1000) (hs : SL H a f) :
    gcall Try.prog md lk 31 [.slice a m m, .int .i64 (n : Int)] H = some (.bool (fewB f n), H) := by
  subst hm
  refine gcall_val rfl Try.func31 rfl rfl ?_
  have e1 : IntKind.i64.wrap ((n : Int) + 1) = ((n + 1 : Nat) : Int) := by rw [w64 (by omega) (by omega)]; omega
  have k1 := fun lk => r11_Check lk H a f f.length rfl hl hs
  unfold fewB
  by_cases h1 : f.length ≤ n + 1
  · have f1 : (((n + 1 : Nat) : Int) < ((f.length : Nat) : Int)) = False := eq_false (by omega)
    rw [decide_eq_true h1, Bool.true_and]
    by_cases h2 : ckL f = 0
    · rw [decide_eq_true h2, Bool.true_and]
      rw [h2] at k1
      simp -dsimp only [go_sem, e1, f1, k1]
      refine r_loop (m := fun i => f.length - i) (I := fun i σ H' => i ≤ f.length ∧ H' = H ∧ (∀ j (hj : j < f.length), j < i → f[j].abs.length ≤ 8) ∧ σ 0 = .slice a f.length f.length ∧ σ 5 = .int .i64 (i : Int)) 0 ⟨Nat.zero_le _, rfl, fun j _ h => by omega, rfl, rfl⟩ ?_
      rintro i σ H' ⟨i1, rfl, hA, g0, g5⟩
      by_cases hi : i < f.length
      · have f2 : ((i : Int) < ((f.length : Nat) : Int)) = True := eq_true (by omega)
        obtain ⟨b, o, B, rfl, hB, hz, hg⟩ := hs.ri i hi
        have hc := isub_get hg 1 (by omega)
        simp only [List.getElem?_cons_succ, List.getElem?_cons_zero] at hc
        have e7 : IntKind.i64.wrap ((i : Int) + 1) = ((i + 1 : Nat) : Int) := by rw [w64 (by omega) (by omega)]; omega
        by_cases h8 : f[i].abs.length ≤ 8
        · have f3 : (8 < ((f[i].abs.length : Nat) : Int)) = False := eq_false (by omega)
          simp -dsimp only [go_sem, g0, g5, f2, hB, hz, hi, hc, f3, e7]
          refine next (i + 1) (by show f.length - (i + 1) < f.length - i; omega) ⟨hi, rfl, fun j hj hji => ?_, g0, rfl⟩
          by_cases he : j = i
          · subst he; exact h8
          · exact hA j hj (by omega)
        · have f3 : (8 < ((f[i].abs.length : Nat) : Int)) = True := eq_true (by omega)
          have hne : (f.all fun x => decide (x.abs.length ≤ 8)) = false := by
            apply Bool.eq_false_iff.2
            intro h
            have := List.all_eq_true.1 h _ (List.getElem_mem hi)
            exact h8 (of_decide_eq_true this)
          rw [hne]
          simp -dsimp only [go_sem, g0, g5, f2, hB, hz, hi, hc, f3]
      · have f2 : ((i : Int) < ((f.length : Nat) : Int)) = False := eq_false (by omega)
        have hal : (f.all fun x => decide (x.abs.length ≤ 8)) = true := all_take _ _ (fun j hj => decide_eq_true (hA j hj (by omega)))
        rw [hal]
        simp -dsimp only [go_sem, g0, g5, f2]
    · rw [decide_eq_false h2, Bool.false_and]
      have f2 : (ckL f = 0) = False := eq_false h2
      simp -dsimp only [go_sem, e1, f1, k1, f2]
  · have f1 : (((n + 1 : Nat) : Int) < ((f.length : Nat) : Int)) = True := eq_true (by omega)
    rw [decide_eq_false h1, Bool.false_and]
    simp -dsimp only [go_sem, e1, f1]
/-- A polynomial of a degree of at most n with short numbers, not zero, and a permitted prime. -/
def fewP (f : List RI) (p : Int) (n : Nat) : Bool := fewB f n && (decide (0 < f.length) && decide (2 ≤ p ∧ p ≤ 65521 ∧ Pr p.toNat))
theorem l13_few (lk : Nat) (H : Heap) (a : Option Addr) (f : List RI) (m n : Nat) (p : Int) (hm : m = f.length) (hl : m ≤ 9223372036854775807) (hn : n ≤ 1000) (hs : SL H a f) :
    gcall Try.prog md lk 11 [.slice a m m, .int .i64 p, .int .i64 (n : Int)] H = some (.bool (fewP f p n), H) := by
  subst hm
  refine gcall_val rfl Try.func11 rfl rfl ?_
  have k1 := fun lk => r11_Few lk H a f f.length n rfl hl hn hs
  have k2 := fun lk H' => r9_IsPrime lk H' p
  unfold fewP
  cases h1 : fewB f n with
  | false =>
    rw [h1] at k1
    rw [Bool.false_and]
    simp -dsimp only [go_sem, k1]
  | true =>
    rw [h1] at k1
    rw [Bool.true_and]
    by_cases h2 : 0 < f.length
    · have f1 : (0 < ((f.length : Nat) : Int)) = True := eq_true (by omega)
      rw [decide_eq_true h2, Bool.true_and]
      simp -dsimp only [go_sem, k1, f1, k2]
    · have f1 : (0 < ((f.length : Nat) : Int)) = False := eq_false (by omega)
      rw [decide_eq_false h2, Bool.false_and]
      simp -dsimp only [go_sem, k1, f1]
theorem fewP_ok {f : List RI} {p : Int} {n : Nat} (h : fewP f p n = true) : ∃ (g : List Int) (q : Nat), f = g.map ofI ∧ p = (q : Int) ∧ OkP g ∧ 2 ≤ q ∧ q ≤ 65521 ∧ Pr q ∧ 0 < g.length ∧ g.length ≤ n + 1 ∧ ∀ z ∈ g, (bytes z.natAbs).length ≤ 8 := by
  unfold fewP fewB at h
  simp only [Bool.and_eq_true, decide_eq_true_eq] at h
  obtain ⟨⟨h1, h2, h3⟩, h4, h5, h6, h7⟩ := h
  obtain ⟨g, rfl, hg⟩ := ckL_zero h2
  rw [List.length_map] at h1 h4
  refine ⟨g, p.toNat, rfl, by omega, hg, by omega, by omega, h7, h4, h1, fun z hz => ?_⟩
  have := List.all_eq_true.1 h3 (ofI z) (List.mem_map.2 ⟨z, hz, rfl⟩)
  exact of_decide_eq_true this
end Gx
end
section
set_option autoImplicit false
namespace Gx
open Go Go.Proofs
set_option maxRecDepth 10000
/-- A slice that is not empty, with all it holds. -/
theorem SL.all {α : Type} [Enc α] {H : Heap} {a : Option Addr} {l : List α} (h : SL H a l) (h0 : 0 < l.length) : ∃ b o B, a = some ⟨b, o, none⟩ ∧ ilive H b = some B ∧ B.sz = Enc.n α ∧ ∀ i (hi : i < l.length), isub B.c (o + i * Enc.n α) (Enc.n α) = some (Enc.enc l[i]) := by
  obtain ⟨b, o, B, rfl, h2, h3, _⟩ := h.get 0 h0
  refine ⟨b, o, B, rfl, h2, h3, fun i hi => ?_⟩
  obtain ⟨b', o', B', he, h2', h3', h4'⟩ := h.get i hi
  cases he
  rw [h2] at h2'
  cases h2'
  exact h4'
theorem SL.allV {H : Heap} {a : Option Addr} {l : List Vtx} (h : SL H a l) (h0 : 0 < l.length) : ∃ b o B, a = some ⟨b, o, none⟩ ∧ ilive H b = some B ∧ B.sz = 2 ∧ (∀ i (hi : i < l.length), isub B.c (o + i * 2) 2 = some [.int .i64 l[i].x, .int .i64 l[i].y]) ∧ (∀ i (hi : i < l.length), B.c[o + i * 2]? = some (.int .i64 l[i].x)) ∧ (∀ i (hi : i < l.length), B.c[o + i * 2 + 1]? = some (.int .i64 l[i].y)) := by
  obtain ⟨b, o, B, h1, h2, h3, h4⟩ := h.all h0
  exact ⟨b, o, B, h1, h2, h3, h4, fun i hi => isub_get (h4 i hi) 0 (show 0 < 2 by omega), fun i hi => isub_get (h4 i hi) 1 (show 1 < 2 by omega)⟩
theorem isub_cut {c l : List Value} {o n m : Nat} (h : isub c o n = some l) (hm : m ≤ n) : isub c o m = some (l.take m) := by
  unfold isub at h ⊢
  split at h
  · injection h with h
    rw [if_pos (by omega), ← h, List.take_take, Nat.min_eq_left hm]
  · cases h
theorem SL.allS {H : Heap} {a : Option Addr} {l : List Sd} (h : SL H a l) (h0 : 0 < l.length) : ∃ b o B, a = some ⟨b, o, none⟩ ∧ ilive H b = some B ∧ B.sz = 4 ∧ (∀ i (hi : i < l.length), isub B.c (o + i * 4) 3 = some [.bool (decide (l[i].s.num < 0)), .string (mkS (bytes l[i].s.num.natAbs)), .string (mkS (bytes l[i].s.den))]) ∧ (∀ i (hi : i < l.length), B.c[o + i * 4 + 3]? = some (.int .i64 l[i].n)) := by
  obtain ⟨b, o, B, h1, h2, h3, h4⟩ := h.all h0
  exact ⟨b, o, B, h1, h2, h3, fun i hi => isub_cut (h4 i hi) (show 3 ≤ 4 by omega), fun i hi => isub_get (h4 i hi) 3 (show 3 < 4 by omega)⟩
theorem pts_idx {p i : Nat} {f : List Int} {v : Vtx} (h : v ∈ ptsFrom p i f) : ∃ j, ∃ hj : j < f.length, v.x = ((i + j : Nat) : Int) ∧ f[j] ≠ 0 ∧ v.y = vp p f[j].natAbs := by
  induction f generalizing i with
  | nil => simp [ptsFrom] at h
  | cons z r ih =>
    unfold ptsFrom at h
    have hrec : v ∈ ptsFrom p (i + 1) r → ∃ j, ∃ hj : j < (z :: r).length, v.x = ((i + j : Nat) : Int) ∧ (z :: r)[j] ≠ 0 ∧ v.y = vp p (z :: r)[j].natAbs := by
      intro h
      obtain ⟨j, hj, h1, h2, h3⟩ := ih h
      exact ⟨j + 1, by simp; omega, by rw [h1]; congr 1; omega, by simpa using h2, by simpa using h3⟩
    by_cases h0 : z = 0
    · rw [if_pos h0] at h; exact hrec h
    · rw [if_neg h0] at h
      rcases List.mem_cons.1 h with rfl | h
      · exact ⟨0, by simp, by simp, by simpa using h0, by simp⟩
      · exact hrec h
theorem pts_pos {p : Nat} {f : List Int} (h : OkP f) (h0 : 0 < f.length) : 0 < (pts p f).length := by
  have h1 := h.last h0
  have h2 := pts_take p f (f.length - 1) (by omega)
  rw [if_neg h1, show f.length - 1 + 1 = f.length by omega, List.take_length] at h2
  rw [h2]; simp
theorem divInt_lt {a b c d : Int} (hb : 0 < b) (hd : 0 < d) : Rat.divInt a b < Rat.divInt c d ↔ a * d < c * b := by
  rw [Rat.divInt_eq_div, Rat.divInt_eq_div]
  have hb' : (0 : Rat) < (b : Rat) := by exact_mod_cast hb
  have hd' : (0 : Rat) < (d : Rat) := by exact_mod_cast hd
  rw [Rat.div_lt_iff hb']
  have e : (c : Rat) / (d : Rat) * (b : Rat) = ((c * b : Int) : Rat) / (d : Rat) := by
    rw [Rat.intCast_mul, Rat.div_def, Rat.div_def, Rat.mul_assoc, Rat.mul_assoc, Rat.mul_comm (d : Rat)⁻¹]
  rw [e, Rat.lt_div_iff hd', ← Rat.intCast_mul]
  exact Rat.intCast_lt_intCast
theorem side_lt {a b c : Vtx} (h1 : a.x < b.x) (h2 : b.x < c.x) (h : 0 < cr a b c) : (sideOf a b).s < (sideOf b c).s := by
  unfold sideOf
  simp only []
  rw [divInt_lt (by omega) (by omega)]
  unfold cr dd at h
  have : (c.y - b.y) * (b.x - a.x) = (b.x - a.x) * (c.y - b.y) := Int.mul_comm _ _
  omega
theorem sides_get (l : List Vtx) (i : Nat) (h : i + 1 < l.length) (h2 : i < (sidesOf l).length) : (sidesOf l)[i] = sideOf l[i] l[i + 1] := by
  have hi : i < l.length := by omega
  simp only [sidesOf, sidesTo, List.getElem_map, List.getElem_range, List.getD, List.getElem?_eq_getElem hi, List.getElem?_eq_getElem h, Option.getD_some]
end Gx
end
