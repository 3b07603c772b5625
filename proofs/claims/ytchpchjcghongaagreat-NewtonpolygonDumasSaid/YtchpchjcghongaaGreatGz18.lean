/- Lemmas: plain facts, or contracts of functions that are reached, in the interpreter without world and addresses. -/
import Derived.Test.YtchpchjcghongaaGreatGz3
import Derived.Test.YtchpchjcghongaaGreatGz17
set_option linter.all false
set_option linter.unusedVariables false
set_option linter.unusedSimpArgs false
set_option linter.unnecessarySimpa false
set_option linter.deprecated false
section
/- The lower hull by its definition. -/
set_option autoImplicit false
namespace Gx
theorem inc_ext {a b : List Vtx} (ha : a.Pairwise (fun u v => u.x < v.x)) (hb : b.Pairwise (fun u v => u.x < v.x)) (h : ∀ v, v ∈ a ↔ v ∈ b) : a = b := by
  induction a generalizing b with
  | nil =>
    cases b with
    | nil => rfl
    | cons y s => exact absurd ((h y).2 (by simp)) (by simp)
  | cons x r ih =>
    cases b with
    | nil => exact absurd ((h x).1 (by simp)) (by simp)
    | cons y s =>
      rw [List.pairwise_cons] at ha hb
      have hxy : x = y := by
        have h1 := (h x).1 (by simp)
        have h2 := (h y).2 (by simp)
        rcases List.mem_cons.1 h1 with h1 | h1
        · exact h1
        · rcases List.mem_cons.1 h2 with h2 | h2
          · exact h2.symm
          · have := hb.1 _ h1; have := ha.1 _ h2; omega
      subst hxy
      congr 1
      refine ih ha.2 hb.2 fun v => ⟨fun hv => ?_, fun hv => ?_⟩
      · rcases List.mem_cons.1 ((h v).1 (List.mem_cons_of_mem _ hv)) with h1 | h1
        · subst h1; have := ha.1 _ hv; omega
        · exact h1
      · rcases List.mem_cons.1 ((h v).2 (List.mem_cons_of_mem _ hv)) with h1 | h1
        · subst h1; have := hb.1 _ hv; omega
        · exact h1
/-- A point below all lines between a point on its left and one on its right. -/
def Low (l : List Vtx) (v : Vtx) : Prop := ∀ a ∈ l, ∀ c ∈ l, a.x < v.x → v.x < c.x → 0 < cr a v c
theorem between (n : Nat) (f : Nat → Int) (y : Int) (h0 : f 0 < y) (hn : y < f n) (hne : ∀ i, i ≤ n → f i ≠ y) : ∃ i, i < n ∧ f i < y ∧ y < f (i + 1) := by
  induction n with
  | zero => omega
  | succ n ih =>
    by_cases h : y < f n
    · obtain ⟨i, h1, h2⟩ := ih h (fun i hi => hne i (by omega))
      exact ⟨i, by omega, h2⟩
    · have := hne n (by omega)
      exact ⟨n, by omega, by omega, hn⟩
theorem HI.mem {l out : List Vtx} (h : HI l out) (hl : l.Pairwise (fun a b => a.x < b.x)) (v : Vtx) : v ∈ out ↔ v ∈ l ∧ Low l v := by
  have hol := hl.sublist h.sub
  have hmem : ∀ i, i < out.length → out.getD i v0 ∈ l := fun i hi => h.sub.subset (getD_mem hi)
  constructor
  · intro hv
    refine ⟨h.sub.subset hv, fun a ha c hc h1 h2 => ?_⟩
    obtain ⟨i, hi, rfl⟩ := List.getElem_of_mem hv
    have e : ∀ j (hj : j < out.length), out[j] = out.getD j v0 := fun j hj => by simp [List.getD, hj]
    rw [e i hi] at h1 h2 ⊢
    have hi0 : i ≠ 0 := by
      rintro rfl
      have := (h.first a ha).2; omega
    obtain ⟨j, rfl⟩ : ∃ j, i = j + 1 := ⟨i - 1, by omega⟩
    have hin : j + 2 < out.length := by
      apply Nat.lt_of_not_le
      intro hle
      have := h.last c hc
      rw [show out.length - 1 = j + 1 by omega] at this
      omega
    have k1 := h.above j (by omega) a ha
    have k2 := h.above (j + 1) (by omega) c hc
    have k3 := h.chain j hin
    have x1 := inc_getD hol (show j < j + 1 by omega) (by omega)
    have x2 := inc_getD hol (show j + 1 < j + 2 by omega) hin
    generalize out.getD j v0 = u at *
    generalize out.getD (j + 1) v0 = v at *
    rw [show j + 1 + 1 = j + 2 from rfl] at k2
    generalize out.getD (j + 2) v0 = w at *
    have k4 : 0 ≤ dd a v u v := by
      unfold cr at k1
      rw [dd_anti, dd_neg]; omega
    rw [cr_eq] at k2
    unfold cr at k3
    exact dd_lt_le h1 x2 h2 (dd_le_lt h1 x1 x2 k4 k3) k2
  · rintro ⟨hv, hlow⟩
    apply Classical.byContradiction
    intro hno
    have hne : ∀ i, i < out.length → (out.getD i v0).x ≠ v.x := by
      intro i hi he
      have := inc_eq hl (hmem i hi) hv he
      rw [← this] at hno
      exact hno (getD_mem hi)
    obtain ⟨f1, f2⟩ := h.first v hv
    have f3 := h.last v hv
    have := hne 0 f1
    have := hne (out.length - 1) (by omega)
    obtain ⟨i, h1, h2, h3⟩ := between (out.length - 1) (fun i => (out.getD i v0).x) v.x (by show (out.getD 0 v0).x < v.x; omega) (by show v.x < (out.getD (out.length - 1) v0).x; omega) (fun i hi => hne i (by omega))
    have k1 := h.above i (by omega) v hv
    have k2 := hlow _ (hmem i (by omega)) _ (hmem (i + 1) (by omega)) h2 h3
    rw [cr_eq] at k1 k2
    rw [dd_anti] at k2
    omega
/-- The hull is what stays below. -/
theorem hull_mem_iff {l : List Vtx} (hl : l.Pairwise (fun a b => a.x < b.x)) (v : Vtx) : v ∈ hull l ↔ v ∈ l ∧ Low l v := (hull_HI l hl).mem hl v
/-- Is the point k a vertex? -/
def vtxAt (l : List Vtx) (k : Nat) : Bool := (List.range k).all fun i => (List.range (l.length - (k + 1))).all fun j => !overB (l.getD i v0) (l.getD k v0) (l.getD (k + 1 + j) v0)
def lowTo (l : List Vtx) (k : Nat) : List Vtx := ((List.range k).filter fun i => vtxAt l i).map fun i => l.getD i v0
theorem lowTo_succ (l : List Vtx) (k : Nat) : lowTo l (k + 1) = if vtxAt l k = true then lowTo l k ++ [l.getD k v0] else lowTo l k := by
  unfold lowTo
  rw [List.range_succ, List.filter_append, List.map_append]
  by_cases h : vtxAt l k = true
  · simp [h]
  · simp [h]
theorem vtxAt_low {l : List Vtx} (hl : l.Pairwise (fun a b => a.x < b.x)) {k : Nat} (hk : k < l.length) : vtxAt l k = true ↔ Low l (l.getD k v0) := by
  unfold vtxAt Low
  rw [List.all_eq_true]
  constructor
  · intro h a ha c hc h1 h2
    obtain ⟨i, hi, rfl⟩ := List.getElem_of_mem ha
    obtain ⟨j, hj, rfl⟩ := List.getElem_of_mem hc
    have e : ∀ j (hj : j < l.length), l[j] = l.getD j v0 := fun j hj => by simp [List.getD, hj]
    rw [e i hi] at h1 ⊢
    rw [e j hj] at h2 ⊢
    have hik : i < k := by
      apply Nat.lt_of_not_le
      intro hle
      rcases Nat.lt_or_eq_of_le hle with h3 | h3
      · have := inc_getD hl h3 hi; omega
      · subst h3; omega
    have hkj : k < j := by
      apply Nat.lt_of_not_le
      intro hle
      rcases Nat.lt_or_eq_of_le hle with h3 | h3
      · have := inc_getD hl h3 hk; omega
      · subst h3; omega
    have h3 := h i (List.mem_range.2 hik)
    rw [List.all_eq_true] at h3
    have h4 := h3 (j - (k + 1)) (List.mem_range.2 (by omega))
    rw [show k + 1 + (j - (k + 1)) = j by omega, overB_cr] at h4
    simpa using h4
  · intro h i hi
    rw [List.mem_range] at hi
    rw [List.all_eq_true]
    intro j hj
    rw [List.mem_range] at hj
    have := h _ (getD_mem (show i < l.length by omega)) _ (getD_mem (show k + 1 + j < l.length by omega)) (inc_getD hl hi hk) (inc_getD hl (by omega) (by omega))
    rw [overB_cr]
    simpa using this
theorem hull_low {l : List Vtx} (hl : l.Pairwise (fun a b => a.x < b.x)) : lowTo l l.length = hull l := by
  have hmap : ∀ n, n ≤ l.length → (lowTo l n).Sublist (l.take n) := by
    intro n
    induction n with
    | zero => intro _; simp [lowTo]
    | succ n ih =>
      intro hn
      have e : l.take (n + 1) = l.take n ++ [l.getD n v0] := by
        rw [List.take_add_one, List.getElem?_eq_getElem (by omega), Option.toList_some]
        simp [List.getD, show n < l.length by omega]
      rw [lowTo_succ, e]
      split
      · exact List.Sublist.append (ih (by omega)) (List.Sublist.refl _)
      · exact (ih (by omega)).trans (List.sublist_append_left _ _)
  have h1 := hmap l.length (Nat.le_refl _)
  rw [List.take_length] at h1
  refine inc_ext (hl.sublist h1) (hl.sublist (hull_HI l hl).sub) fun v => ?_
  rw [hull_mem_iff hl]
  constructor
  · intro hv
    refine ⟨h1.subset hv, ?_⟩
    unfold lowTo at hv
    obtain ⟨i, hi, rfl⟩ := List.mem_map.1 hv
    rw [List.mem_filter, List.mem_range] at hi
    exact (vtxAt_low hl hi.1).1 hi.2
  · rintro ⟨hv, hlow⟩
    obtain ⟨i, hi, rfl⟩ := List.getElem_of_mem hv
    have e : l[i] = l.getD i v0 := by simp [List.getD, hi]
    rw [e] at hlow ⊢
    unfold lowTo
    exact List.mem_map.2 ⟨i, List.mem_filter.2 ⟨List.mem_range.2 hi, (vtxAt_low hl hi).2 hlow⟩, rfl⟩
end Gx
end
section
/- Newton polygons of polynomials that are scaled, stretched and reversed. -/
set_option autoImplicit false
namespace Gx
theorem vp_mul_pow {q n : Nat} (hq : 2 ≤ q) (hn : n ≠ 0) (k : Nat) : vp q (n * q ^ k) = vp q n + k := by
  induction k with
  | zero => simp
  | succ k ih =>
    have h1 : n * q ^ (k + 1) = n * q ^ k * q := by rw [Nat.pow_succ, Nat.mul_assoc]
    have h0 : n * q ^ k ≠ 0 := Nat.mul_ne_zero hn (Nat.ne_of_gt (Nat.pow_pos (by omega)))
    rw [h1, vp_step hq (Nat.mul_ne_zero h0 (by omega)) (Nat.mul_mod_left _ _), Nat.mul_div_cancel _ (by omega), ih]; omega
theorem mul_pow_zero {q : Nat} (hq : 2 ≤ q) (z : Int) (k : Nat) : z * ((q ^ k : Nat) : Int) = 0 ↔ z = 0 := by
  have : ((q ^ k : Nat) : Int) ≠ 0 := by
    have := Nat.pow_pos (n := k) (show 0 < q by omega)
    omega
  constructor
  · intro h
    rcases Int.mul_eq_zero.1 h with h | h
    · exact h
    · exact absurd h this
  · rintro rfl; simp
theorem vp_mulI {q : Nat} (hq : 2 ≤ q) {z : Int} (hz : z ≠ 0) (k : Nat) : vp q (z * ((q ^ k : Nat) : Int)).natAbs = vp q z.natAbs + k := by
  rw [Int.natAbs_mul, Int.natAbs_natCast, vp_mul_pow hq (by omega)]
def shY (k : Nat) (v : Vtx) : Vtx := ⟨v.x, v.y + k⟩
def stY (v : Vtx) : Vtx := ⟨v.x, v.y + v.x⟩
theorem pts_scaled {q : Nat} (hq : 2 ≤ q) (k i : Nat) (g : List Int) : ptsFrom q i (g.map fun z => z * ((q ^ k : Nat) : Int)) = (ptsFrom q i g).map (shY k) := by
  induction g generalizing i with
  | nil => rfl
  | cons z r ih =>
    simp only [List.map_cons, ptsFrom, ih, mul_pow_zero hq]
    by_cases hz : z = 0
    · rw [if_pos hz, if_pos hz]
    · rw [if_neg hz, if_neg hz, List.map_cons, vp_mulI hq hz]
      congr 1
def strF (q : Nat) : Nat → List Int → List Int
  | _, [] => []
  | i, z :: r => z * ((q ^ i : Nat) : Int) :: strF q (i + 1) r
theorem strF_len (q i : Nat) (g : List Int) : (strF q i g).length = g.length := by
  induction g generalizing i with
  | nil => rfl
  | cons z r ih => simp [strF, ih]
theorem strF_app (q i : Nat) (f g : List Int) : strF q i (f ++ g) = strF q i f ++ strF q (i + f.length) g := by
  induction f generalizing i with
  | nil => simp [strF]
  | cons z r ih =>
    simp only [List.cons_append, strF, ih, List.length_cons]
    rw [show i + 1 + r.length = i + (r.length + 1) by omega]
theorem strF_get (q i : Nat) (g : List Int) (j : Nat) (h : j < g.length) : (strF q i g)[j]'(by rw [strF_len]; exact h) = g[j] * ((q ^ (i + j) : Nat) : Int) := by
  induction g generalizing i j with
  | nil => simp at h
  | cons z r ih =>
    cases j with
    | zero => simp [strF]
    | succ j =>
      simp only [strF, List.getElem_cons_succ]
      rw [ih (i + 1) j (by simpa using h), show i + 1 + j = i + (j + 1) by omega]
theorem pts_stretched {q : Nat} (hq : 2 ≤ q) (i : Nat) (g : List Int) : ptsFrom q i (strF q i g) = (ptsFrom q i g).map stY := by
  induction g generalizing i with
  | nil => rfl
  | cons z r ih =>
    simp only [strF, ptsFrom, ih, mul_pow_zero hq]
    by_cases hz : z = 0
    · rw [if_pos hz, if_pos hz]
    · rw [if_neg hz, if_neg hz, List.map_cons, vp_mulI hq hz]
      congr 1
/-- A map that keeps who lies above whom. -/
theorem popTo_map (φ : Vtx → Vtx) (hφ : ∀ a b c, overB (φ a) (φ b) (φ c) = overB a b c) (out : List Vtx) (x : Vtx) (k : Nat) (h : k ≤ out.length) : popTo (out.map φ) (φ x) k = popTo out x k := by
  induction k with
  | zero => rfl
  | succ k ih =>
    cases k with
    | zero => rfl
    | succ k =>
      have h1 : k < out.length := by omega
      have h2 : k + 1 < out.length := by omega
      unfold popTo
      rw [ih (by omega)]
      simp only [List.getD, List.getElem?_map, List.getElem?_eq_getElem h1, List.getElem?_eq_getElem h2, Option.map_some, Option.getD_some, hφ]
theorem hull_map (φ : Vtx → Vtx) (hφ : ∀ a b c, overB (φ a) (φ b) (φ c) = overB a b c) (l : List Vtx) : hull (l.map φ) = (hull l).map φ := by
  have : ∀ (l out : List Vtx), (l.map φ).foldl hullStep (out.map φ) = (l.foldl hullStep out).map φ := by
    intro l
    induction l with
    | nil => intro out; rfl
    | cons x r ih =>
      intro out
      simp only [List.map_cons, List.foldl_cons]
      rw [← ih]
      congr 1
      unfold hullStep
      rw [List.length_map, popTo_map φ hφ out x _ (Nat.le_refl _), List.map_append, List.map_take]; rfl
  exact this l []
theorem over_shY (k : Nat) (a b c : Vtx) : overB (shY k a) (shY k b) (shY k c) = overB a b c := by
  unfold overB shY
  apply decide_eq_decide.2
  simp only []
  rw [show c.y + (k : Int) - (a.y + k) = c.y - a.y by omega, show b.y + (k : Int) - (a.y + k) = b.y - a.y by omega]
theorem over_stY (a b c : Vtx) : overB (stY a) (stY b) (stY c) = overB a b c := by
  rw [overB_cr, overB_cr]
  apply decide_eq_decide.2
  have : cr (stY a) (stY b) (stY c) = cr a b c := by unfold cr dd stY; grind
  rw [this]
theorem sides_shY (k : Nat) (l : List Vtx) : sidesOf (l.map (shY k)) = sidesOf l := by
  unfold sidesOf sidesTo
  rw [List.length_map]
  apply List.map_congr_left
  intro j hj
  rw [List.mem_range] at hj
  have h1 : j < l.length := by omega
  have h2 : j + 1 < l.length := by omega
  simp only [List.getD, List.getElem?_map, List.getElem?_eq_getElem h1, List.getElem?_eq_getElem h2, Option.map_some, Option.getD_some, sideOf, shY]
  rw [show l[j + 1].y + (k : Int) - (l[j].y + k) = l[j + 1].y - l[j].y by omega]
theorem divInt_one_add {n d : Int} (hd : d ≠ 0) : Rat.divInt (n + d) d = Rat.divInt n d + 1 := by
  have h : (1 : Rat) = Rat.divInt 1 1 := rfl
  rw [h, Rat.divInt_add_divInt _ _ hd (by decide), Int.mul_one, Int.mul_one, Int.one_mul]
theorem sides_stY (l : List Vtx) (hx : ∀ i (h : i + 1 < l.length), l[i].x < l[i + 1].x) : sidesOf (l.map stY) = (sidesOf l).map fun s => ⟨s.s + 1, s.n⟩ := by
  unfold sidesOf sidesTo
  rw [List.length_map, List.map_map]
  apply List.map_congr_left
  intro j hj
  rw [List.mem_range] at hj
  have h1 : j < l.length := by omega
  have h2 : j + 1 < l.length := by omega
  have := hx j h2
  simp only [Function.comp, List.getD, List.getElem?_map, List.getElem?_eq_getElem h1, List.getElem?_eq_getElem h2, Option.map_some, Option.getD_some, sideOf, stY]
  rw [show l[j + 1].y + l[j + 1].x - (l[j].y + l[j].x) = l[j + 1].y - l[j].y + (l[j + 1].x - l[j].x) by omega, divInt_one_add (by omega)]
/-- The mirror. -/
def fl (n : Nat) (v : Vtx) : Vtx := ⟨(n : Int) - 1 - v.x, v.y⟩
theorem ptsFrom_shift (q i : Nat) (g : List Int) : ptsFrom q i g = (ptsFrom q 0 g).map fun v => ⟨v.x + i, v.y⟩ := by
  have : ∀ (i j : Nat) (g : List Int), ptsFrom q (i + j) g = (ptsFrom q j g).map fun v => ⟨v.x + i, v.y⟩ := by
    intro i j g
    induction g generalizing j with
    | nil => rfl
    | cons z r ih =>
      simp only [ptsFrom]
      rw [show i + j + 1 = i + (j + 1) by omega, ih]
      by_cases hz : z = 0
      · rw [if_pos hz, if_pos hz]
      · rw [if_neg hz, if_neg hz, List.map_cons]
        congr 1
        have : ((i + j : Nat) : Int) = (j : Int) + (i : Int) := by omega
        rw [this]
  exact this i 0 g
theorem pts_rev (q : Nat) (g : List Int) : pts q g.reverse = ((pts q g).map (fl g.length)).reverse := by
  unfold pts
  induction g with
  | nil => rfl
  | cons z r ih =>
    rw [List.reverse_cons, ptsFrom_app, ih, List.length_reverse, Nat.zero_add]
    have e : ptsFrom q 0 (z :: r) = (if z = 0 then [] else [⟨0, vp q z.natAbs⟩]) ++ ptsFrom q 1 r := by
      simp only [ptsFrom]
      split <;> simp
    rw [e, ptsFrom_shift q 1 r, List.map_append, List.reverse_append, List.map_map]
    congr 1
    · congr 1
      apply List.map_congr_left
      intro v _
      unfold fl
      simp only [Function.comp, List.length_cons]
      congr 1
      omega
    · simp only [ptsFrom]
      by_cases hz : z = 0
      · rw [if_pos hz, if_pos hz]; rfl
      · rw [if_neg hz, if_neg hz]
        simp only [List.map_cons, List.map_nil, List.reverse_singleton, fl, List.length_cons]
        congr 2
        omega
theorem fl_fl (n : Nat) (v : Vtx) : fl n (fl n v) = v := by
  cases v with
  | mk x y => simp only [fl]; congr 1; omega
theorem fl_inj {n : Nat} {a b : Vtx} (h : fl n a = fl n b) : a = b := by rw [← fl_fl n a, h, fl_fl]
theorem cr_fl (n : Nat) (a b c : Vtx) : cr (fl n c) (fl n b) (fl n a) = cr a b c := by unfold cr dd fl; grind
theorem inc_fl {l : List Vtx} (n : Nat) (h : l.Pairwise (fun a b => a.x < b.x)) : ((l.map (fl n)).reverse).Pairwise (fun a b => a.x < b.x) := by
  rw [List.pairwise_reverse, List.pairwise_map]
  refine h.imp ?_
  intro a b h
  show (n : Int) - 1 - b.x < (n : Int) - 1 - a.x
  omega
theorem hull_rev (n : Nat) {l : List Vtx} (h : l.Pairwise (fun a b => a.x < b.x)) : hull ((l.map (fl n)).reverse) = ((hull l).map (fl n)).reverse := by
  refine inc_ext ((inc_fl n h).sublist (hull_sub _)) (inc_fl n (h.sublist (hull_sub _))) fun v => ?_
  have hm : ∀ (l : List Vtx) (v : Vtx), v ∈ (l.map (fl n)).reverse ↔ fl n v ∈ l := by
    intro l v
    rw [List.mem_reverse, List.mem_map]
    constructor
    · rintro ⟨a, ha, rfl⟩; rw [fl_fl]; exact ha
    · intro hv; exact ⟨fl n v, hv, fl_fl n v⟩
  rw [hull_mem_iff (inc_fl n h), hm, hm, hull_mem_iff h]
  refine and_congr_right fun _ => ?_
  unfold Low
  constructor
  · intro hl a ha c hc h1 h2
    have e1 : (fl n v).x = (n : Int) - 1 - v.x := rfl
    have k := hl (fl n c) (by rw [hm, fl_fl]; exact hc) (fl n a) (by rw [hm, fl_fl]; exact ha) (by show (n : Int) - 1 - c.x < v.x; omega) (by show v.x < (n : Int) - 1 - a.x; omega)
    have := cr_fl n a (fl n v) c
    rw [fl_fl] at this
    rw [← this]; exact k
  · intro hl a ha c hc h1 h2
    rw [hm] at ha hc
    have k := hl _ hc _ ha (by show (n : Int) - 1 - c.x < (n : Int) - 1 - v.x; omega) (by show (n : Int) - 1 - v.x < (n : Int) - 1 - a.x; omega)
    rw [cr_fl] at k
    exact k
theorem sides_rev (n : Nat) (l : List Vtx) (k : Nat) (h : k < (sidesOf l).length) : ∃ h2 : k < (sidesOf ((l.map (fl n)).reverse)).length, ∃ h3 : (sidesOf l).length - 1 - k < (sidesOf l).length,
    (sidesOf ((l.map (fl n)).reverse))[k].n = (sidesOf l)[(sidesOf l).length - 1 - k].n ∧ (sidesOf ((l.map (fl n)).reverse))[k].s = -(sidesOf l)[(sidesOf l).length - 1 - k].s := by
  have hlen : ∀ l : List Vtx, (sidesOf l).length = l.length - 1 := fun l => by unfold sidesOf; rw [sidesTo_len]
  have hl := hlen l
  have hl2 := hlen ((l.map (fl n)).reverse)
  rw [List.length_reverse, List.length_map] at hl2
  refine ⟨by omega, by omega, ?_⟩
  rw [sides_get _ k (by rw [List.length_reverse, List.length_map]; omega), sides_get l ((sidesOf l).length - 1 - k) (by omega)]
  simp only [List.getElem_reverse, List.getElem_map, List.length_map, sideOf, fl, hl]
  have e1 : l.length - 1 - (k + 1) = l.length - 1 - 1 - k := by omega
  have e2 : l.length - 1 - k = l.length - 1 - 1 - k + 1 := by omega
  have g1 : l[l.length - 1 - (k + 1)]'(by omega) = l[l.length - 1 - 1 - k]'(by omega) := by congr 1
  have g2 : l[l.length - 1 - k]'(by omega) = l[l.length - 1 - 1 - k + 1]'(by omega) := by congr 1
  rw [g1, g2]
  refine ⟨by omega, ?_⟩
  rw [Rat.neg_divInt]
  congr 1 <;> omega
end Gx
end
section
/- Newton polygons of products. -/
set_option autoImplicit false
namespace Gx
theorem pr_dvd_mul {q a b : Nat} (hq : Pr q) (h : q ∣ a * b) : q ∣ a ∨ q ∣ b := by
  by_cases ha : q ∣ a
  · exact .inl ha
  · right
    have h2q := hq.1
    have hg : Nat.gcd q a = 1 := by
      have h1 := Nat.gcd_dvd_left q a
      have hpos : 0 < Nat.gcd q a := Nat.gcd_pos_of_pos_left _ (by omega)
      have hle := Nat.le_of_dvd (by omega) h1
      by_cases h2 : Nat.gcd q a = q
      · have h3 := Nat.gcd_dvd_right q a
        rw [h2] at h3
        exact absurd h3 ha
      · by_cases h3 : 2 ≤ Nat.gcd q a
        · exact absurd (Nat.mod_eq_zero_of_dvd h1) (hq.2 _ (by omega) h3)
        · omega
    exact Nat.Coprime.dvd_of_dvd_mul_left (show Nat.Coprime q a from hg) h
theorem vp_dvd {q n : Nat} (hq : 2 ≤ q) (hn : n ≠ 0) (e : Nat) : q ^ e ∣ n ↔ e ≤ vp q n := by
  constructor
  · rintro ⟨c, rfl⟩
    have hc : c ≠ 0 := by rintro rfl; simp at hn
    rw [Nat.mul_comm, vp_mul_pow hq hc]; omega
  · intro h
    obtain ⟨m, h1, _⟩ := vp_pow hq n hn
    conv => rhs; rw [h1]
    exact Nat.dvd_trans (Nat.pow_dvd_pow q h) (Nat.dvd_mul_left _ _)
theorem vp_mul {q a b : Nat} (hq : Pr q) (ha : a ≠ 0) (hb : b ≠ 0) : vp q (a * b) = vp q a + vp q b := by
  obtain ⟨m, h1, h2⟩ := vp_pow hq.1 a ha
  obtain ⟨m', h3, h4⟩ := vp_pow hq.1 b hb
  have e : a * b = (m * m') * q ^ (vp q a + vp q b) := by
    rw [Nat.pow_add]
    conv => lhs; rw [h1, h3]
    ac_rfl
  have hm : m * m' ≠ 0 := by
    intro h0
    rw [h0, Nat.zero_mul] at e
    exact Nat.mul_ne_zero ha hb e
  have hs : vp q (m * m') = 0 := by
    apply vp_stop
    intro h0
    rcases pr_dvd_mul hq (Nat.dvd_of_mod_eq_zero h0) with h | h
    · exact h2 (Nat.mod_eq_zero_of_dvd h)
    · exact h4 (Nat.mod_eq_zero_of_dvd h)
  conv => lhs; rw [e]
  rw [vp_mul_pow hq.1 hm, hs]; omega
/-- The exponent in an integer. -/
def vz (q : Nat) (z : Int) : Int := (vp q z.natAbs : Int)
theorem vz_dvd {q : Nat} (hq : 2 ≤ q) {z : Int} (hz : z ≠ 0) (e : Nat) : ((q ^ e : Nat) : Int) ∣ z ↔ (e : Int) ≤ vz q z := by
  rw [← Int.dvd_natAbs, Int.natCast_dvd_natCast, vp_dvd hq (by omega)]
  unfold vz; omega
theorem vz_mul {q : Nat} (hq : Pr q) {x y : Int} (hx : x ≠ 0) (hy : y ≠ 0) : vz q (x * y) = vz q x + vz q y := by
  unfold vz
  rw [Int.natAbs_mul, vp_mul hq (by omega) (by omega)]; omega
theorem vz_nn (q : Nat) (z : Int) : 0 ≤ vz q z := by unfold vz; omega
theorem sum_dvd {d : Int} {T : Nat → Int} {n : Nat} (h : ∀ i, i < n → d ∣ T i) : d ∣ sumTo T n := by
  induction n with
  | zero => exact Int.dvd_zero d
  | succ n ih => exact Int.dvd_add (ih fun i hi => h i (by omega)) (h n (by omega))
theorem lt_of_mul {t x y : Int} (ht : 0 < t) (h : t * x < t * y) : x < y := Int.lt_of_mul_lt_mul_left h (Int.le_of_lt ht)
theorem sum_vz {q : Nat} (hq : 2 ≤ q) {T : Nat → Int} {n : Nat} {t M : Int} (ht : 0 < t) (hne : sumTo T n ≠ 0) (h : ∀ i, i < n → T i ≠ 0 → M ≤ t * vz q (T i)) : M ≤ t * vz q (sumTo T n) := by
  apply Int.le_of_not_gt
  intro hlt
  have hd : ((q ^ ((vz q (sumTo T n)).toNat + 1) : Nat) : Int) ∣ sumTo T n := by
    apply sum_dvd
    intro i hi
    by_cases h0 : T i = 0
    · rw [h0]; exact Int.dvd_zero _
    · have h1 := h i hi h0
      have h2 := lt_of_mul ht (show t * vz q (sumTo T n) < t * vz q (T i) by omega)
      rw [vz_dvd hq h0]
      have := vz_nn q (sumTo T n)
      omega
  rw [vz_dvd hq hne] at hd
  have := vz_nn q (sumTo T n)
  omega
theorem sum_split (T : Nat → Int) (b n : Nat) (h : b < n) : sumTo T n = T b + sumTo (fun i => if i = b then 0 else T i) n := by
  induction n with
  | zero => omega
  | succ n ih =>
    rw [sumTo, sumTo]
    by_cases hb : b = n
    · subst hb
      rw [if_pos rfl, sumTo_congr (F := T) (G := fun i => if i = b then 0 else T i) (fun i hi => by rw [if_neg (by omega)])]
      omega
    · rw [ih (by omega), if_neg (Ne.symm hb)]; omega
theorem sum_exact {q : Nat} (hq : 2 ≤ q) {T : Nat → Int} {n b : Nat} (hb : b < n) (h0 : T b ≠ 0) (h : ∀ i, i < n → i ≠ b → T i ≠ 0 → vz q (T b) < vz q (T i)) : sumTo T n ≠ 0 ∧ vz q (sumTo T n) = vz q (T b) := by
  have hnn := vz_nn q (T b)
  have hR : ((q ^ ((vz q (T b)).toNat + 1) : Nat) : Int) ∣ sumTo (fun i => if i = b then 0 else T i) n := by
    apply sum_dvd
    intro i hi
    by_cases hib : i = b
    · rw [if_pos hib]; exact Int.dvd_zero _
    · rw [if_neg hib]
      by_cases h1 : T i = 0
      · rw [h1]; exact Int.dvd_zero _
      · rw [vz_dvd hq h1]
        have := h i hi hib h1
        omega
  have hs := sum_split T b n hb
  have hnot : ¬ ((q ^ ((vz q (T b)).toNat + 1) : Nat) : Int) ∣ sumTo T n := by
    intro hd
    have h2 := Int.dvd_sub hd hR
    rw [hs, Int.add_sub_cancel, vz_dvd hq h0] at h2
    omega
  have hne : sumTo T n ≠ 0 := by
    intro h0
    rw [h0] at hnot
    exact hnot (Int.dvd_zero _)
  refine ⟨hne, ?_⟩
  have hlow : ((q ^ (vz q (T b)).toNat : Nat) : Int) ∣ sumTo T n := by
    rw [hs]
    refine Int.dvd_add ((vz_dvd hq h0 _).2 (by omega)) (Int.dvd_trans ?_ hR)
    exact Int.natCast_dvd_natCast.2 (Nat.pow_dvd_pow q (by omega))
  rw [vz_dvd hq hne] at hlow hnot
  omega
/-- The weight of a coefficient. -/
def wt (q : Nat) (f : List Int) (s t : Int) (i : Nat) : Int := t * vz q (cf f i) - s * (i : Int)
/-- Where the weight is least: m is the least weight, a the first place and b the last one. -/
structure Edge (q : Nat) (f : List Int) (s t m : Int) (a b : Nat) : Prop where
  ab : a ≤ b
  a0 : cf f a ≠ 0
  b0 : cf f b ≠ 0
  wa : wt q f s t a = m
  wb : wt q f s t b = m
  ge : ∀ i, cf f i ≠ 0 → m ≤ wt q f s t i
  lo : ∀ i, i < a → cf f i ≠ 0 → m < wt q f s t i
  hi : ∀ i, b < i → cf f i ≠ 0 → m < wt q f s t i
theorem Edge.uniq {q : Nat} {f : List Int} {s t m m' : Int} {a b a' b' : Nat} (h : Edge q f s t m a b) (h' : Edge q f s t m' a' b') : m = m' ∧ a = a' ∧ b = b' := by
  have h1 := h.ge a' h'.a0
  have h2 := h'.ge a h.a0
  rw [h'.wa] at h1
  rw [h.wa] at h2
  have hm : m = m' := by omega
  subst hm
  refine ⟨rfl, ?_, ?_⟩
  · rcases Nat.lt_trichotomy a a' with h3 | h3 | h3
    · have := h'.lo a h3 h.a0; have := h.wa; omega
    · exact h3
    · have := h.lo a' h3 h'.a0; have := h'.wa; omega
  · rcases Nat.lt_trichotomy b b' with h3 | h3 | h3
    · have := h.hi b' h3 h'.b0; have := h'.wb; omega
    · exact h3
    · have := h'.hi b h3 h.b0; have := h.wb; omega
theorem cf_mulP (f g : List Int) (k : Nat) : cf (mulP f g) k = mulC f g k := by
  by_cases h : k < (mulP f g).length
  · rw [cf_lt h]; simp [mulP]
  · rw [cf_ge (by omega)]
    rw [mulP_len] at h
    unfold mulC
    rw [sumTo_zero]
    intro i hi
    unfold mulT
    split
    · rw [cf_ge (f := g) (by omega), Int.mul_zero]
    · rfl
theorem mulT_ne {f g : List Int} {k i : Nat} (h : mulT f g k i ≠ 0) : i ≤ k ∧ cf f i ≠ 0 ∧ cf g (k - i) ≠ 0 := by
  unfold mulT at h
  by_cases hi : i ≤ k
  · rw [if_pos hi] at h
    exact ⟨hi, fun h0 => h (by rw [h0, Int.zero_mul]), fun h0 => h (by rw [h0, Int.mul_zero])⟩
  · rw [if_neg hi] at h; exact absurd rfl h
theorem mulT_wt {q : Nat} (hq : Pr q) {f g : List Int} {k i : Nat} {s t : Int} (h : mulT f g k i ≠ 0) : t * vz q (mulT f g k i) - s * (k : Int) = wt q f s t i + wt q g s t (k - i) := by
  obtain ⟨h1, h2, h3⟩ := mulT_ne h
  unfold mulT wt
  rw [if_pos h1, vz_mul hq h2 h3, Int.mul_add, Int.ofNat_sub h1, Int.mul_sub]
  omega
theorem cf_ne_lt {f : List Int} {i : Nat} (h : cf f i ≠ 0) : i < f.length := by
  apply Nat.lt_of_not_le
  intro hle
  exact h (cf_ge hle)
theorem Edge.mul {q : Nat} (hq : Pr q) {f g : List Int} {s t m m' : Int} {a b a' b' : Nat} (ht : 0 < t) (h : Edge q f s t m a b) (h' : Edge q g s t m' a' b') : Edge q (mulP f g) s t (m + m') (a + a') (b + b') := by
  have key : ∀ c c', cf f c ≠ 0 → cf g c' ≠ 0 → wt q f s t c = m → wt q g s t c' = m' → (∀ i, i ≤ c + c' → i ≠ c → cf f i ≠ 0 → cf g (c + c' - i) ≠ 0 → m + m' < wt q f s t i + wt q g s t (c + c' - i)) → cf (mulP f g) (c + c') ≠ 0 ∧ wt q (mulP f g) s t (c + c') = m + m' := by
    intro c c' h1 h2 h3 h4 h5
    have e : mulT f g (c + c') c = cf f c * cf g c' := by
      unfold mulT; rw [if_pos (by omega), Nat.add_sub_cancel_left]
    have hne : mulT f g (c + c') c ≠ 0 := by rw [e]; exact Int.mul_ne_zero h1 h2
    have hw := mulT_wt hq (s := s) (t := t) hne
    rw [Nat.add_sub_cancel_left, h3, h4] at hw
    obtain ⟨r1, r2⟩ := sum_exact hq.1 (T := mulT f g (c + c')) (n := f.length) (b := c) (cf_ne_lt h1) hne (fun i hi hic hti => by
      obtain ⟨u1, u2, u3⟩ := mulT_ne hti
      have u4 := h5 i u1 hic u2 u3
      rw [← mulT_wt hq (s := s) (t := t) hti] at u4
      exact lt_of_mul ht (by omega))
    unfold wt
    rw [cf_mulP]
    unfold mulC
    refine ⟨r1, ?_⟩
    rw [r2]; exact hw
  have kge : ∀ k M, cf (mulP f g) k ≠ 0 → (∀ i, i ≤ k → cf f i ≠ 0 → cf g (k - i) ≠ 0 → M ≤ wt q f s t i + wt q g s t (k - i)) → M ≤ wt q (mulP f g) s t k := by
    intro k M h1 h2
    unfold wt
    rw [cf_mulP] at h1 ⊢
    unfold mulC at h1 ⊢
    have := sum_vz hq.1 (T := mulT f g k) (n := f.length) (t := t) (M := M + s * (k : Int)) ht h1 (fun i hi hti => by
      obtain ⟨u1, u2, u3⟩ := mulT_ne hti
      have u4 := h2 i u1 u2 u3
      rw [← mulT_wt hq (s := s) (t := t) hti] at u4
      omega)
    omega
  obtain ⟨x1, x2⟩ := key a a' h.a0 h'.a0 h.wa h'.wa (fun i hi hne u1 u2 => by
    have v1 := h.ge i u1
    have v2 := h'.ge _ u2
    rcases Nat.lt_or_gt_of_ne hne with h3 | h3
    · have := h.lo i h3 u1; omega
    · have := h'.lo (a + a' - i) (by omega) u2; omega)
  obtain ⟨y1, y2⟩ := key b b' h.b0 h'.b0 h.wb h'.wb (fun i hi hne u1 u2 => by
    have v1 := h.ge i u1
    have v2 := h'.ge _ u2
    rcases Nat.lt_or_gt_of_ne hne with h3 | h3
    · have := h'.hi (b + b' - i) (by omega) u2; omega
    · have := h.hi i h3 u1; omega)
  refine ⟨Nat.add_le_add h.ab h'.ab, x1, y1, x2, y2, fun k hk => ?_, fun k hlt hk => ?_, fun k hlt hk => ?_⟩
  · exact kge k _ hk (fun i hi u1 u2 => by have := h.ge i u1; have := h'.ge _ u2; omega)
  · have := kge k (m + m' + 1) hk (fun i hi u1 u2 => by
      have v1 := h.ge i u1
      have v2 := h'.ge _ u2
      by_cases h3 : i < a
      · have := h.lo i h3 u1; omega
      · have := h'.lo (k - i) (by omega) u2; omega)
    omega
  · have := kge k (m + m' + 1) hk (fun i hi u1 u2 => by
      have v1 := h.ge i u1
      have v2 := h'.ge _ u2
      by_cases h3 : b < i
      · have := h.hi i h3 u1; omega
      · have := h'.hi (k - i) (by omega) u2; omega)
    omega
end Gx
end
section
/- The sides of a polygon are where the weights are least. -/
set_option autoImplicit false
namespace Gx
theorem mem_pts {q : Nat} {f : List Int} {j : Nat} (h : cf f j ≠ 0) : (⟨(j : Int), vz q (cf f j)⟩ : Vtx) ∈ pts q f := by
  have key : ∀ (f : List Int) (i j : Nat), cf f j ≠ 0 → (⟨((i + j : Nat) : Int), vz q (cf f j)⟩ : Vtx) ∈ ptsFrom q i f := by
    intro f
    induction f with
    | nil => intro i j h; simp [cf] at h
    | cons z r ih =>
      intro i j h
      cases j with
      | zero =>
        have hz : cf (z :: r) 0 = z := rfl
        rw [hz] at h ⊢
        unfold ptsFrom
        rw [if_neg h, Nat.add_zero]
        exact List.mem_cons_self
      | succ j =>
        have hz : cf (z :: r) (j + 1) = cf r j := by simp [cf]
        rw [hz] at h ⊢
        have := ih (i + 1) j h
        rw [show i + 1 + j = i + (j + 1) by omega] at this
        unfold ptsFrom
        split
        · exact this
        · exact List.mem_cons_of_mem _ this
  have := key f 0 j h
  rw [Nat.zero_add] at this
  exact this
theorem pts_mem {q : Nat} {f : List Int} {v : Vtx} (h : v ∈ pts q f) : ∃ j : Nat, cf f j ≠ 0 ∧ v = ⟨(j : Int), vz q (cf f j)⟩ := by
  obtain ⟨j, hj, h1, h2, h3⟩ := pts_idx h
  have e : cf f j = f[j] := cf_lt hj
  refine ⟨j, by rw [e]; exact h2, ?_⟩
  cases v with
  | mk x y =>
    simp only [] at h1 h3
    rw [h1, h3, e, Nat.zero_add]; rfl
/-- The weight of a point. -/
def W (s t : Int) (v : Vtx) : Int := t * v.y - s * v.x
theorem W_wt (q : Nat) (f : List Int) (s t : Int) (j : Nat) : W s t ⟨(j : Int), vz q (cf f j)⟩ = wt q f s t j := rfl
theorem cr_W (u v k : Vtx) : cr u v k = W (v.y - u.y) (v.x - u.x) k - W (v.y - u.y) (v.x - u.x) u := by unfold cr dd W; grind
theorem cr_W2 (u v k : Vtx) : cr k u v = W (v.y - u.y) (v.x - u.x) k - W (v.y - u.y) (v.x - u.x) u := by unfold cr dd W; grind
theorem W_same (u v : Vtx) : W (v.y - u.y) (v.x - u.x) v = W (v.y - u.y) (v.x - u.x) u := by unfold W; grind
theorem t_cr (s t : Int) (c a d : Vtx) : t * cr c a d = (a.x - c.x) * (W s t d - W s t a) + (W s t c - W s t a) * (d.x - a.x) := by unfold cr dd W; grind
theorem side_edge {q : Nat} {f : List Int} {i : Nat} (h : i + 1 < (hull (pts q f)).length) : ∃ (a b : Nat) (m : Int), (hull (pts q f))[i].x = (a : Int) ∧ (hull (pts q f))[i + 1].x = (b : Int) ∧ a < b ∧
    Edge q f ((hull (pts q f))[i + 1].y - (hull (pts q f))[i].y) ((hull (pts q f))[i + 1].x - (hull (pts q f))[i].x) m a b := by
  have hinc : (pts q f).Pairwise (fun a b => a.x < b.x) := (pts_from q 0 f).1
  have hH := hull_HI _ hinc
  have hlt := hull_inc hinc i h
  have hi : i < (hull (pts q f)).length := by omega
  have hu := (hull_mem_iff hinc _).1 (List.getElem_mem hi)
  have hv := (hull_mem_iff hinc _).1 (List.getElem_mem h)
  have hab := hH.above i h
  simp only [List.getD, List.getElem?_eq_getElem hi, List.getElem?_eq_getElem h, Option.getD_some] at hab
  generalize (hull (pts q f))[i] = u at *
  generalize (hull (pts q f))[i + 1] = v at *
  obtain ⟨a, ha, rfl⟩ := pts_mem hu.1
  obtain ⟨b, hb, rfl⟩ := pts_mem hv.1
  simp only [] at hlt
  have hge : ∀ j, cf f j ≠ 0 → 0 ≤ cr ⟨(a : Int), vz q (cf f a)⟩ ⟨(b : Int), vz q (cf f b)⟩ ⟨(j : Int), vz q (cf f j)⟩ := fun j hj => hab _ (mem_pts hj)
  refine ⟨a, b, _, rfl, rfl, by omega, ⟨by omega, ha, hb, rfl, ?_, fun j hj => ?_, fun j hja hj => ?_, fun j hjb hj => ?_⟩⟩
  · have := W_same ⟨(a : Int), vz q (cf f a)⟩ ⟨(b : Int), vz q (cf f b)⟩
    exact this
  · have h1 := hge j hj
    rw [cr_W] at h1
    simp only [W_wt] at h1
    dsimp only
    omega
  · have h1 := hu.2 _ (mem_pts hj) _ hv.1 (by show (j : Int) < (a : Int); omega) hlt
    rw [cr_W2] at h1
    simp only [W_wt] at h1
    dsimp only
    omega
  · have h1 := hv.2 _ hu.1 _ (mem_pts hj) hlt (by show (b : Int) < (j : Int); omega)
    rw [cr_W] at h1
    simp only [W_wt] at h1
    dsimp only
    omega
theorem edge_low {q : Nat} {f : List Int} {s t m : Int} {a : Nat} (ht : 0 < t) (ha : cf f a ≠ 0) (hm : wt q f s t a = m) (h : ∀ i j, cf f i ≠ 0 → cf f j ≠ 0 → i < a → a < j → m ≤ wt q f s t i ∧ m ≤ wt q f s t j ∧ (m < wt q f s t i ∨ m < wt q f s t j)) :
    (⟨(a : Int), vz q (cf f a)⟩ : Vtx) ∈ hull (pts q f) := by
  rw [hull_mem_iff (l := pts q f) (pts_from q 0 f).1]
  refine ⟨mem_pts ha, fun c hc d hd h1 h2 => ?_⟩
  obtain ⟨i, hi, rfl⟩ := pts_mem hc
  obtain ⟨j, hj, rfl⟩ := pts_mem hd
  simp only [] at h1 h2
  obtain ⟨k1, k2, k3⟩ := h i j hi hj (by omega) (by omega)
  apply pos_of_mul ht
  rw [t_cr s t]
  simp only [W_wt, hm]
  have x1 : (0 : Int) < (a : Int) - i := by omega
  have x2 : (0 : Int) < (j : Int) - a := by omega
  rcases k3 with k3 | k3
  · have y1 := Int.mul_nonneg (Int.le_of_lt x1) (show 0 ≤ wt q f s t j - m by omega)
    have y2 := Int.mul_pos (show 0 < wt q f s t i - m by omega) x2
    omega
  · have y1 := Int.mul_pos x1 (show 0 < wt q f s t j - m by omega)
    have y2 := Int.mul_nonneg (show 0 ≤ wt q f s t i - m by omega) (Int.le_of_lt x2)
    omega
theorem edge_side {q : Nat} {f : List Int} {s t m : Int} {a b : Nat} (ht : 0 < t) (hab : a < b) (h : Edge q f s t m a b) : ∃ i, ∃ hi : i + 1 < (hull (pts q f)).length, (hull (pts q f))[i] = ⟨(a : Int), vz q (cf f a)⟩ ∧ (hull (pts q f))[i + 1] = ⟨(b : Int), vz q (cf f b)⟩ := by
  have hinc : (pts q f).Pairwise (fun a b => a.x < b.x) := (pts_from q 0 f).1
  have hhi := hinc.sublist (hull_sub (pts q f))
  have hA := edge_low ht h.a0 h.wa (fun i j hi hj h1 h2 => ⟨h.ge i hi, h.ge j hj, .inl (h.lo i h1 hi)⟩)
  have hB := edge_low ht h.b0 h.wb (fun i j hi hj h1 h2 => ⟨h.ge i hi, h.ge j hj, .inr (h.hi j h2 hj)⟩)
  have hAl := ((hull_mem_iff hinc _).1 hA).1
  have hBl := ((hull_mem_iff hinc _).1 hB).1
  obtain ⟨i, hi, ei⟩ := List.getElem_of_mem hA
  obtain ⟨j, hj, ej⟩ := List.getElem_of_mem hB
  have hij : i < j := by
    rcases Nat.lt_trichotomy i j with h1 | h1 | h1
    · exact h1
    · subst h1
      rw [ei] at ej
      injection ej with e1 e2
      omega
    · have := List.pairwise_iff_getElem.1 hhi j i hj hi h1
      rw [ei, ej] at this
      simp only [] at this
      omega
  have hj1 : j = i + 1 := by
    apply Classical.byContradiction
    intro hne
    have hi1 : i + 1 < (hull (pts q f)).length := by omega
    have x1 := List.pairwise_iff_getElem.1 hhi i (i + 1) hi hi1 (by omega)
    have x2 := List.pairwise_iff_getElem.1 hhi (i + 1) j hi1 hj (by omega)
    have hv := (hull_mem_iff hinc _).1 (List.getElem_mem hi1)
    rw [ei] at x1
    rw [ej] at x2
    generalize (hull (pts q f))[i + 1] = v at *
    obtain ⟨c, hc, rfl⟩ := pts_mem hv.1
    have h1 := hv.2 _ hAl _ hBl x1 x2
    have h2 := Int.mul_pos ht h1
    rw [t_cr s t] at h2
    simp only [W_wt, h.wa, h.wb] at h2 x1 x2
    have h3 := h.ge c hc
    have y1 := Int.mul_nonneg (show (0 : Int) ≤ (c : Int) - a by omega) (show 0 ≤ wt q f s t c - m by omega)
    have y2 := Int.mul_nonneg (show 0 ≤ wt q f s t c - m by omega) (show (0 : Int) ≤ (b : Int) - c by omega)
    have z1 : ((c : Int) - a) * (m - wt q f s t c) = -(((c : Int) - a) * (wt q f s t c - m)) := by rw [← Int.mul_neg]; congr 1; omega
    have z2 : (m - wt q f s t c) * ((b : Int) - c) = -((wt q f s t c - m) * ((b : Int) - c)) := by rw [← Int.neg_mul]; congr 1; omega
    omega
  subst hj1
  exact ⟨i, hj, ei, ej⟩
/-- The sides of a polygon. -/
theorem side_iff {q : Nat} {f : List Int} (x : Sd) : x ∈ sidesOf (hull (pts q f)) ↔ ∃ (s t m : Int) (a b : Nat), 0 < t ∧ a < b ∧ Edge q f s t m a b ∧ x = ⟨Rat.divInt s t, (b : Int) - a⟩ := by
  constructor
  · intro hx
    obtain ⟨i, hi, rfl⟩ := List.getElem_of_mem hx
    have hl : (sidesOf (hull (pts q f))).length = (hull (pts q f)).length - 1 := by unfold sidesOf; rw [sidesTo_len]
    have hi1 : i + 1 < (hull (pts q f)).length := by omega
    obtain ⟨a, b, m, e1, e2, h1, h2⟩ := side_edge hi1
    refine ⟨_, _, m, a, b, by omega, h1, h2, ?_⟩
    rw [sides_get _ i hi1]
    unfold sideOf
    rw [e1, e2]
  · rintro ⟨s, t, m, a, b, ht, hab, h, rfl⟩
    obtain ⟨i, hi, e1, e2⟩ := edge_side ht hab h
    have hl : (sidesOf (hull (pts q f))).length = (hull (pts q f)).length - 1 := by unfold sidesOf; rw [sidesTo_len]
    have hs := sides_get (hull (pts q f)) i hi (by omega)
    rw [e1, e2] at hs
    have : (⟨Rat.divInt s t, (b : Int) - a⟩ : Sd) = (sidesOf (hull (pts q f)))[i]'(by omega) := by
      rw [hs]
      unfold sideOf
      simp only []
      congr 1
      rw [Rat.divInt_eq_divInt_iff (by omega) (by omega)]
      have w1 := h.wa
      have w2 := h.wb
      unfold wt at w1 w2
      rw [Int.mul_sub, Int.sub_mul, Int.mul_comm (vz q (cf f b)), Int.mul_comm (vz q (cf f a))]
      omega
    rw [this]
    exact List.getElem_mem _
end Gx
end
section
/- The polygon of a product of linear polynomials. -/
set_option autoImplicit false
namespace Gx
theorem divInt_z (z : Int) : Rat.divInt z 1 = (z : Rat) := by
  apply Rat.ext
  · simp [Rat.num_divInt]
  · simp [Rat.den_divInt]
def linP (r : Int) : List Int := [0 - r, 1]
def prodR (rs : List Int) : List Int := rs.foldl (fun f r => mulP f (linP r)) [1]
theorem prodR_app (rs : List Int) (r : Int) : prodR (rs ++ [r]) = mulP (prodR rs) (linP r) := by
  unfold prodR; rw [List.foldl_append]; rfl
theorem prodR_len (rs : List Int) : (prodR rs).length = rs.length + 1 := by
  have : ∀ (rs f : List Int), 0 < f.length → (rs.foldl (fun f r => mulP f (linP r)) f).length = rs.length + f.length := by
    intro rs
    induction rs with
    | nil => intro f _; simp
    | cons r rs ih =>
      intro f hf
      rw [List.foldl_cons, ih _ (by rw [mulP_len]; simp [linP]), mulP_len]
      simp [linP]; omega
  have := this rs [1] (by decide)
  simpa [prodR] using this
theorem prodR_last (rs : List Int) : cf (prodR rs) rs.length = 1 := by
  have : ∀ n, n ≤ rs.length → cf (prodR (rs.take n)) n = 1 := by
    intro n
    induction n with
    | zero => intro _; rfl
    | succ n ih =>
      intro hn
      have h1 := ih (by omega)
      have hl := prodR_len (rs.take n)
      rw [List.length_take, Nat.min_eq_left (by omega)] at hl
      rw [List.take_add_one, List.getElem?_eq_getElem (by omega), Option.toList_some, prodR_app, cf_mulP]
      have h2 := mulC_top (prodR (rs.take n)) (linP rs[n]) (by omega) (by simp [linP])
      rw [hl] at h2
      have e : n + 1 + (linP rs[n]).length - 2 = n + 1 := by simp [linP]
      rw [e] at h2
      rw [h2]
      have e2 : n + 1 - 1 = n := by omega
      rw [e2, h1]; rfl
  have := this rs.length (Nat.le_refl _)
  rwa [List.take_length] at this
def cntS (q : Nat) (rs : List Int) (s t : Int) : Nat := rs.countP fun r => decide (s = -(vz q r * t))
theorem vz_one {q : Nat} (hq : 2 ≤ q) : vz q 1 = 0 := by
  unfold vz
  have : (1 : Int).natAbs = 1 := rfl
  rw [this, vp_stop (by rw [Nat.mod_eq_of_lt (by omega)]; decide)]; rfl
theorem vz_neg (q : Nat) (z : Int) : vz q (0 - z) = vz q z := by unfold vz; rw [Int.zero_sub, Int.natAbs_neg]
theorem edge_one {q : Nat} (hq : 2 ≤ q) (s t : Int) : Edge q [1] s t 0 0 0 := by
  have h0 : cf [1] 0 = 1 := rfl
  have hw : wt q [1] s t 0 = 0 := by unfold wt; rw [h0, vz_one hq]; simp
  have hz : ∀ i, cf [1] i ≠ 0 → i = 0 := fun i h => by have := cf_ne_lt h; simp at this; exact this
  refine ⟨Nat.le_refl _, by rw [h0]; decide, by rw [h0]; decide, hw, hw, fun i h => ?_, fun i h => by omega, fun i hi h => ?_⟩
  · rw [hz i h, hw]; exact Int.le_refl _
  · have := hz i h; omega
theorem edge_lin {q : Nat} (hq : 2 ≤ q) {r s t : Int} (hr : r ≠ 0) : ∃ (m : Int) (a : Nat), Edge q (linP r) s t m a (a + if s = -(vz q r * t) then 1 else 0) := by
  have h0 : cf (linP r) 0 = 0 - r := rfl
  have h1 : cf (linP r) 1 = 1 := rfl
  have hz : ∀ i, cf (linP r) i ≠ 0 → i = 0 ∨ i = 1 := fun i h => by
    have := cf_ne_lt h
    simp [linP] at this
    omega
  have w0 : wt q (linP r) s t 0 = vz q r * t := by unfold wt; rw [h0, vz_neg, Int.mul_comm]; simp
  have w1 : wt q (linP r) s t 1 = -s := by unfold wt; rw [h1, vz_one hq]; simp
  have n0 : cf (linP r) 0 ≠ 0 := by rw [h0]; omega
  have n1 : cf (linP r) 1 ≠ 0 := by rw [h1]; decide
  generalize vz q r * t = x at *
  by_cases he : s = -x
  · rw [if_pos he]
    refine ⟨x, 0, by omega, n0, n1, w0, by rw [w1]; omega, fun i h => ?_, fun i h => by omega, fun i hi h => ?_⟩
    · rcases hz i h with rfl | rfl
      · omega
      · omega
    · rcases hz i h with rfl | rfl <;> omega
  · rw [if_neg he, ]
    by_cases hlt : x < -s
    · refine ⟨x, 0, by omega, n0, n0, w0, w0, fun i h => ?_, fun i h => by omega, fun i hi h => ?_⟩
      · rcases hz i h with rfl | rfl <;> omega
      · rcases hz i h with rfl | rfl <;> omega
    · refine ⟨-s, 1, by omega, n1, n1, w1, w1, fun i h => ?_, fun i hi h => ?_, fun i hi h => ?_⟩
      · rcases hz i h with rfl | rfl <;> omega
      · rcases hz i h with rfl | rfl <;> omega
      · rcases hz i h with rfl | rfl <;> omega
theorem edge_roots {q : Nat} (hq : Pr q) {s t : Int} (ht : 0 < t) (rs : List Int) (hr : ∀ r ∈ rs, r ≠ 0) : ∃ (m : Int) (a : Nat), Edge q (prodR rs) s t m a (a + cntS q rs s t) := by
  have : ∀ n, n ≤ rs.length → ∃ (m : Int) (a : Nat), Edge q (prodR (rs.take n)) s t m a (a + cntS q (rs.take n) s t) := by
    intro n
    induction n with
    | zero => intro _; exact ⟨0, 0, edge_one hq.1 s t⟩
    | succ n ih =>
      intro hn
      obtain ⟨m, a, h⟩ := ih (by omega)
      obtain ⟨m', a', h'⟩ := edge_lin (s := s) (t := t) hq.1 (hr rs[n] (List.getElem_mem _))
      have h2 := h.mul hq ht h'
      rw [List.take_add_one, List.getElem?_eq_getElem (by omega), Option.toList_some, prodR_app]
      have e : cntS q (rs.take n ++ [rs[n]]) s t = cntS q (rs.take n) s t + if s = -(vz q rs[n] * t) then 1 else 0 := by
        unfold cntS
        rw [List.countP_append]
        congr 1
        by_cases h : s = -(vz q rs[n] * t) <;> simp [h]
      rw [e]
      refine ⟨m + m', a + a', ?_⟩
      rw [show a + a' + (cntS q (rs.take n) s t + if s = -(vz q rs[n] * t) then 1 else 0) = a + cntS q (rs.take n) s t + (a' + if s = -(vz q rs[n] * t) then 1 else 0) by omega]
      exact h2
  have := this rs.length (Nat.le_refl _)
  rwa [List.take_length] at this
theorem sd_ext {a b : List Sd} (ha : a.Pairwise (fun u v => u.s < v.s)) (hb : b.Pairwise (fun u v => u.s < v.s)) (h : ∀ v, v ∈ a ↔ v ∈ b) : a = b := by
  have irr : ∀ x : Rat, ¬ x < x := fun x => Rat.lt_irrefl
  induction a generalizing b with
  | nil =>
    cases b with
    | nil => rfl
    | cons y s => exact absurd ((h y).2 (by simp)) (by simp)
  | cons x r ih =>
    cases b with
    | nil => exact absurd ((h x).1 (by simp)) (by simp)
    | cons y s =>
      rw [List.pairwise_cons] at ha hb
      have hxy : x = y := by
        have h1 := (h x).1 (by simp)
        have h2 := (h y).2 (by simp)
        rcases List.mem_cons.1 h1 with h1 | h1
        · exact h1
        · rcases List.mem_cons.1 h2 with h2 | h2
          · exact h2.symm
          · exact absurd (Std.lt_trans (hb.1 _ h1) (ha.1 _ h2)) (irr _)
      subst hxy
      congr 1
      refine ih ha.2 hb.2 fun v => ⟨fun hv => ?_, fun hv => ?_⟩
      · rcases List.mem_cons.1 ((h v).1 (List.mem_cons_of_mem _ hv)) with h1 | h1
        · subst h1; exact absurd (ha.1 _ hv) (irr _)
        · exact h1
      · rcases List.mem_cons.1 ((h v).2 (List.mem_cons_of_mem _ hv)) with h1 | h1
        · subst h1; exact absurd (hb.1 _ hv) (irr _)
        · exact h1
theorem sides_asc (q : Nat) (f : List Int) : (sidesOf (hull (pts q f))).Pairwise (fun u v => u.s < v.s) := by
  have hinc : (pts q f).Pairwise (fun a b => a.x < b.x) := (pts_from q 0 f).1
  have hH := hull_HI _ hinc
  have hl : (sidesOf (hull (pts q f))).length = (hull (pts q f)).length - 1 := by unfold sidesOf; rw [sidesTo_len]
  have step : ∀ i (h : i + 1 < (sidesOf (hull (pts q f))).length), (sidesOf (hull (pts q f)))[i].s < (sidesOf (hull (pts q f)))[i + 1].s := by
    intro i h
    have h2 : i + 2 < (hull (pts q f)).length := by omega
    rw [sides_get _ i (by omega), sides_get _ (i + 1) (by omega)]
    have hc := hH.chain i h2
    simp only [List.getD, List.getElem?_eq_getElem (show i < (hull (pts q f)).length by omega), List.getElem?_eq_getElem (show i + 1 < (hull (pts q f)).length by omega), List.getElem?_eq_getElem h2, Option.getD_some] at hc
    exact side_lt (hull_inc hinc i (by omega)) (hull_inc hinc (i + 1) (by omega)) hc
  rw [List.pairwise_iff_getElem]
  intro i j hi hj hij
  obtain ⟨d, rfl⟩ : ∃ d, j = i + 1 + d := ⟨j - (i + 1), by omega⟩
  induction d with
  | zero => exact step i (by omega)
  | succ d ih => exact Std.lt_trans (ih (by omega) (by omega)) (step (i + 1 + d) (by omega))
/-- The sides that are expected, from the steepest one on. -/
def wantTo (c : Nat → Nat) : Nat → List Sd
  | 0 => []
  | k + 1 => wantTo c k ++ if c (19 - k) = 0 then [] else [⟨((-((19 - k : Nat) : Int) : Int) : Rat), (c (19 - k) : Int)⟩]
theorem wantTo_mem (c : Nat → Nat) (k : Nat) (hk : k ≤ 20) (x : Sd) : x ∈ wantTo c k ↔ ∃ v, 20 - k ≤ v ∧ v < 20 ∧ c v ≠ 0 ∧ x = ⟨((-(v : Int) : Int) : Rat), (c v : Int)⟩ := by
  induction k with
  | zero =>
    constructor
    · intro h; simp [wantTo] at h
    · rintro ⟨v, h1, h2, _⟩; omega
  | succ k ih =>
    rw [wantTo, List.mem_append, ih (by omega)]
    constructor
    · rintro (⟨v, h1, h2, h3, h4⟩ | h)
      · exact ⟨v, by omega, h2, h3, h4⟩
      · by_cases h0 : c (19 - k) = 0
        · rw [if_pos h0] at h; simp at h
        · rw [if_neg h0] at h
          exact ⟨19 - k, by omega, by omega, h0, by simpa using h⟩
    · rintro ⟨v, h1, h2, h3, h4⟩
      by_cases hv : v = 19 - k
      · right
        subst hv
        rw [if_neg h3, h4]; simp
      · left; exact ⟨v, by omega, h2, h3, h4⟩
theorem wantTo_asc (c : Nat → Nat) (k : Nat) (hk : k ≤ 20) : (wantTo c k).Pairwise (fun u v => u.s < v.s) := by
  induction k with
  | zero => exact List.Pairwise.nil
  | succ k ih =>
    rw [wantTo, List.pairwise_append]
    refine ⟨ih (by omega), ?_, fun x hx y hy => ?_⟩
    · split
      · exact List.Pairwise.nil
      · exact List.pairwise_singleton _ _
    · by_cases h0 : c (19 - k) = 0
      · rw [if_pos h0] at hy; simp at hy
      · rw [if_neg h0] at hy
        simp only [List.mem_singleton] at hy
        obtain ⟨v, h1, h2, h3, rfl⟩ := (wantTo_mem c k (by omega) x).1 hx
        subst hy
        show ((-(v : Int) : Int) : Rat) < ((-((19 - k : Nat) : Int) : Int) : Rat)
        rw [Rat.intCast_lt_intCast]; omega
theorem roots_sides {q : Nat} (hq : Pr q) (rs : List Int) (hr : ∀ r ∈ rs, r ≠ 0 ∧ vz q r < 20) (c : Nat → Nat) (hc : ∀ v, c v = rs.countP fun r => decide (vz q r = (v : Int))) : sidesOf (hull (pts q (prodR rs))) = wantTo c 20 := by
  refine sd_ext (sides_asc q _) (wantTo_asc c 20 (Nat.le_refl _)) fun x => ?_
  rw [side_iff, wantTo_mem c 20 (Nat.le_refl _)]
  have hcnt : ∀ (v : Nat) (t : Int), 0 < t → cntS q rs (-((v : Int) * t)) t = c v := by
    intro v t ht
    rw [hc]
    unfold cntS
    congr 1
    funext r
    apply decide_eq_decide.2
    constructor
    · intro h
      have h2 : vz q r * t = (v : Int) * t := by omega
      exact Int.eq_of_mul_eq_mul_right (by omega) h2
    · intro h; rw [h]
  constructor
  · rintro ⟨s, t, m, a, b, ht, hab, he, rfl⟩
    obtain ⟨m', a', he'⟩ := edge_roots (s := s) (t := t) hq ht rs (fun r h => (hr r h).1)
    obtain ⟨_, h2, h3⟩ := he.uniq he'
    have hpos : 0 < cntS q rs s t := by omega
    unfold cntS at hpos
    obtain ⟨r, hrm, hrd⟩ := List.countP_pos_iff.1 hpos
    have hs : s = -(vz q r * t) := of_decide_eq_true hrd
    have hv0 := vz_nn q r
    have hv20 := (hr r hrm).2
    have ev : ((vz q r).toNat : Int) = vz q r := by omega
    have e := hcnt (vz q r).toNat t ht
    rw [ev, ← hs] at e
    refine ⟨(vz q r).toNat, by omega, by omega, by omega, ?_⟩
    have e1 : Rat.divInt s t = ((-((vz q r).toNat : Int) : Int) : Rat) := by
      rw [ev, hs]
      have : ((-(vz q r) : Int) : Rat) = Rat.divInt (-(vz q r)) 1 := (divInt_z _).symm
      rw [this, Rat.divInt_eq_divInt_iff (by omega) (by decide)]
      rw [Int.mul_one, Int.neg_mul]
    rw [e1]
    congr 1
    omega
  · rintro ⟨v, _, h1, h2, rfl⟩
    obtain ⟨m, a, he⟩ := edge_roots (s := -((v : Int) * 1)) (t := 1) hq (by decide) rs (fun r h => (hr r h).1)
    rw [hcnt v 1 (by decide)] at he
    refine ⟨_, 1, m, a, a + c v, by decide, by omega, he, ?_⟩
    have e1 : Rat.divInt (-((v : Int) * 1)) 1 = ((-(v : Int) : Int) : Rat) := by
      rw [Int.mul_one]; exact divInt_z _
    rw [e1]
    congr 1
    omega
end Gx
end
section
/- The sides of a product are the sum of the sides. -/
set_option autoImplicit false
namespace Gx
/-- Edges among the first n coefficients. -/
theorem edge_upto (q : Nat) (f : List Int) (s t : Int) (n : Nat) : (∀ i, i < n → cf f i = 0) ∨ ∃ (m : Int) (a b : Nat), a ≤ b ∧ b < n ∧ cf f a ≠ 0 ∧ cf f b ≠ 0 ∧ wt q f s t a = m ∧ wt q f s t b = m ∧
    (∀ i, i < n → cf f i ≠ 0 → m ≤ wt q f s t i) ∧ (∀ i, i < a → cf f i ≠ 0 → m < wt q f s t i) ∧ (∀ i, b < i → i < n → cf f i ≠ 0 → m < wt q f s t i) := by
  induction n with
  | zero => exact .inl fun i h => by omega
  | succ n ih =>
    by_cases h0 : cf f n = 0
    · rcases ih with ih | ⟨m, a, b, h1, h2, h3, h4, h5, h6, h7, h8, h9⟩
      · left
        intro i hi
        by_cases hin : i = n
        · rw [hin]; exact h0
        · exact ih i (by omega)
      · right
        refine ⟨m, a, b, h1, by omega, h3, h4, h5, h6, fun i hi hc => ?_, h8, fun i hb hi hc => ?_⟩
        · exact h7 i (by rcases Nat.lt_or_eq_of_le (Nat.le_of_lt_succ hi) with h | h; exact h; rw [h] at hc; exact absurd h0 hc) hc
        · exact h9 i hb (by rcases Nat.lt_or_eq_of_le (Nat.le_of_lt_succ hi) with h | h; exact h; rw [h] at hc; exact absurd h0 hc) hc
    · right
      have last : ∀ i, i < n + 1 → i ≠ n → i < n := fun i h1 h2 => by omega
      rcases ih with ih | ⟨m, a, b, h1, h2, h3, h4, h5, h6, h7, h8, h9⟩
      · refine ⟨_, n, n, Nat.le_refl _, Nat.lt_succ_self _, h0, h0, rfl, rfl, fun i hi hc => ?_, fun i hi hc => absurd (ih i hi) hc, fun i hb hi hc => by omega⟩
        by_cases hin : i = n
        · rw [hin]; exact Int.le_refl _
        · exact absurd (ih i (last i hi hin)) hc
      · rcases Int.lt_trichotomy (wt q f s t n) m with hw | hw | hw
        · refine ⟨_, n, n, Nat.le_refl _, Nat.lt_succ_self _, h0, h0, rfl, rfl, fun i hi hc => ?_, fun i hi hc => ?_, fun i hb hi hc => by omega⟩
          · by_cases hin : i = n
            · rw [hin]; exact Int.le_refl _
            · have := h7 i (last i hi hin) hc; omega
          · have := h7 i hi hc; omega
        · refine ⟨m, a, n, by omega, Nat.lt_succ_self _, h3, h0, h5, hw, fun i hi hc => ?_, h8, fun i hb hi hc => by omega⟩
          by_cases hin : i = n
          · rw [hin]; omega
          · exact h7 i (last i hi hin) hc
        · refine ⟨m, a, b, h1, by omega, h3, h4, h5, h6, fun i hi hc => ?_, h8, fun i hb hi hc => ?_⟩
          · by_cases hin : i = n
            · rw [hin]; omega
            · exact h7 i (last i hi hin) hc
          · by_cases hin : i = n
            · rw [hin]; exact hw
            · exact h9 i hb (last i hi hin) hc
theorem edge_ex (q : Nat) (f : List Int) (s t : Int) (h : ∃ i, cf f i ≠ 0) : ∃ (m : Int) (a b : Nat), Edge q f s t m a b := by
  rcases edge_upto q f s t f.length with h0 | ⟨m, a, b, h1, h2, h3, h4, h5, h6, h7, h8, h9⟩
  · obtain ⟨i, hi⟩ := h
    exact absurd (h0 i (cf_ne_lt hi)) hi
  · exact ⟨m, a, b, h1, h3, h4, h5, h6, fun i hc => h7 i (cf_ne_lt hc) hc, h8, fun i hb hc => h9 i hb (cf_ne_lt hc) hc⟩
/-- The length of the side with a slope, or 0. -/
def lenAt (l : List Sd) (r : Rat) : Int := match l.find? fun x => decide (x.s = r) with
  | some x => x.n
  | none => 0
theorem lenAt_mem {l : List Sd} (h : l.Pairwise (fun u v => u.s < v.s)) {x : Sd} (hx : x ∈ l) : lenAt l x.s = x.n := by
  induction l with
  | nil => simp at hx
  | cons y r ih =>
    rw [List.pairwise_cons] at h
    unfold lenAt
    rw [List.find?_cons]
    rcases List.mem_cons.1 hx with rfl | hx
    · simp
    · have hne : y.s ≠ x.s := fun e => by
        have := h.1 x hx
        rw [e] at this
        exact Rat.lt_irrefl this
      rw [decide_eq_false hne]
      exact ih h.2 hx
theorem lenAt_none {l : List Sd} {r : Rat} (h : ∀ x ∈ l, x.s ≠ r) : lenAt l r = 0 := by
  unfold lenAt
  rw [List.find?_eq_none.2 (fun x hx => by simpa using h x hx)]
theorem edge_len {q : Nat} {f : List Int} {s t m : Int} {a b : Nat} (ht : 0 < t) (h : Edge q f s t m a b) : lenAt (sidesOf (hull (pts q f))) (Rat.divInt s t) = (b : Int) - a := by
  by_cases hab : a < b
  · have hx := (side_iff (q := q) (f := f) ⟨Rat.divInt s t, (b : Int) - a⟩).2 ⟨s, t, m, a, b, ht, hab, h, rfl⟩
    exact lenAt_mem (sides_asc q f) hx
  · have he : a = b := by have := h.ab; omega
    rw [lenAt_none]
    · omega
    · intro x hx hs
      obtain ⟨s', t', m', a', b', ht', hab', h', rfl⟩ := (side_iff x).1 hx
      simp only [] at hs
      rw [Rat.divInt_eq_divInt_iff (by omega) (by omega)] at hs
      -- both weights are one up to a factor
      have e : ∀ i, t * wt q f s' t' i = t' * wt q f s t i := by
        intro i
        unfold wt
        rw [Int.mul_sub, Int.mul_sub, ← Int.mul_assoc, ← Int.mul_assoc, ← Int.mul_assoc, ← Int.mul_assoc, Int.mul_comm t t', Int.mul_comm t s', hs, Int.mul_comm s t']
      have k1 := h.ge a' h'.a0
      have k2 := h'.ge a h.a0
      have k3 := e a'
      have k4 := e a
      have k5 := e b'
      rw [h'.wa] at k3
      rw [h.wa] at k4
      rw [h'.wb] at k5
      have k6 := Int.mul_le_mul_of_nonneg_left k2 (Int.le_of_lt ht)
      have k7 := Int.mul_le_mul_of_nonneg_left k1 (Int.le_of_lt ht')
      have k8 : t' * wt q f s t a' = t' * m := by omega
      have k9 : t' * wt q f s t b' = t' * m := by omega
      have k10 : wt q f s t a' = m := Int.eq_of_mul_eq_mul_left (by omega) k8
      have k11 : wt q f s t b' = m := Int.eq_of_mul_eq_mul_left (by omega) k9
      have c1 : ¬ a' < a := fun hl => by have := h.lo a' hl h'.a0; omega
      have c2 : ¬ b < b' := fun hl => by have := h.hi b' hl h'.b0; omega
      omega
/-- The lengths of the sides of a product are the sums. -/
theorem len_mul {q : Nat} (hq : Pr q) {f g : List Int} (hf : ∃ i, cf f i ≠ 0) (hg : ∃ i, cf g i ≠ 0) (r : Rat) : lenAt (sidesOf (hull (pts q (mulP f g)))) r = lenAt (sidesOf (hull (pts q f))) r + lenAt (sidesOf (hull (pts q g))) r := by
  have hd : (0 : Int) < (r.den : Int) := by have := r.den_nz; omega
  obtain ⟨m, a, b, h⟩ := edge_ex q f r.num (r.den : Int) hf
  obtain ⟨m', a', b', h'⟩ := edge_ex q g r.num (r.den : Int) hg
  have h2 := h.mul hq hd h'
  have e1 := edge_len hd h
  have e2 := edge_len hd h'
  have e3 := edge_len hd h2
  rw [Rat.num_divInt_den] at e1 e2 e3
  rw [e1, e2, e3]; omega
end Gx
end
section
/- Sums of lists of sides. -/
set_option autoImplicit false
namespace Gx
/-- The sum of the lengths with a slope. -/
def sumAt : List Sd → Rat → Int
  | [], _ => 0
  | x :: l, r => (if x.s = r then x.n else 0) + sumAt l r
theorem sumAt_app (a b : List Sd) (r : Rat) : sumAt (a ++ b) r = sumAt a r + sumAt b r := by
  induction a with
  | nil => simp [sumAt]
  | cons x l ih => rw [List.cons_append, sumAt, sumAt, ih]; omega
theorem sumAt_perm {a b : List Sd} (h : a.Perm b) (r : Rat) : sumAt a r = sumAt b r := by
  induction h with
  | nil => rfl
  | cons x _ ih => rw [sumAt, sumAt, ih]
  | swap x y l => simp only [sumAt]; omega
  | trans _ _ h1 h2 => rw [h1, h2]
theorem sumAt_none {l : List Sd} {r : Rat} (h : ∀ x ∈ l, x.s ≠ r) : sumAt l r = 0 := by
  induction l with
  | nil => rfl
  | cons x l ih =>
    rw [sumAt, if_neg (h x (by simp)), ih (fun y hy => h y (List.mem_cons_of_mem _ hy))]; rfl
theorem sumAt_mem {l : List Sd} (h : l.Pairwise (fun u v => u.s < v.s)) {x : Sd} (hx : x ∈ l) : sumAt l x.s = x.n := by
  induction l with
  | nil => simp at hx
  | cons y r ih =>
    rw [List.pairwise_cons] at h
    rw [sumAt]
    rcases List.mem_cons.1 hx with rfl | hx
    · rw [if_pos rfl, sumAt_none]
      · omega
      · intro z hz e
        have := h.1 z hz
        rw [e] at this
        exact Rat.lt_irrefl this
    · have hne : y.s ≠ x.s := fun e => by
        have := h.1 x hx
        rw [e] at this
        exact Rat.lt_irrefl this
      rw [if_neg hne, ih h.2 hx]; omega
theorem lenAt_sumAt {l : List Sd} (h : l.Pairwise (fun u v => u.s < v.s)) (r : Rat) : lenAt l r = sumAt l r := by
  by_cases hx : ∃ x ∈ l, x.s = r
  · obtain ⟨x, hx, rfl⟩ := hx
    rw [lenAt_mem h hx, sumAt_mem h hx]
  · rw [lenAt_none (fun x h1 h2 => hx ⟨x, h1, h2⟩), sumAt_none (fun x h1 h2 => hx ⟨x, h1, h2⟩)]
/-- Lists that ascend, with positive lengths, are known by their sums. -/
theorem sums_ext {a b : List Sd} (ha : a.Pairwise (fun u v => u.s < v.s)) (hb : b.Pairwise (fun u v => u.s < v.s)) (pa : ∀ x ∈ a, 0 < x.n) (pb : ∀ x ∈ b, 0 < x.n) (h : ∀ r, sumAt a r = sumAt b r) : a = b := by
  have key : ∀ {a b : List Sd}, a.Pairwise (fun u v => u.s < v.s) → b.Pairwise (fun u v => u.s < v.s) → (∀ x ∈ a, 0 < x.n) → (∀ r, sumAt a r = sumAt b r) → ∀ v, v ∈ a → v ∈ b := by
    intro a b ha hb pa h v hv
    have h1 := h v.s
    rw [sumAt_mem ha hv] at h1
    have h2 := pa v hv
    by_cases hx : ∃ x ∈ b, x.s = v.s
    · obtain ⟨x, hx, hs⟩ := hx
      rw [← hs, sumAt_mem hb hx] at h1
      have : v = x := by
        cases v; cases x
        simp only [] at hs h1
        rw [hs, h1]
      rw [this]; exact hx
    · rw [sumAt_none (fun x h3 h4 => hx ⟨x, h3, h4⟩)] at h1
      omega
  exact sd_ext ha hb fun v => ⟨key ha hb pa h v, key hb ha pb (fun r => (h r).symm) v⟩
/-- Neighbours with one slope are put together. -/
def mgStep (out : List Sd) (x : Sd) : List Sd := match out.getLast? with
  | some y => if y.s = x.s then out.dropLast ++ [⟨y.s, y.n + x.n⟩] else out ++ [x]
  | none => [x]
def mg (l : List Sd) : List Sd := l.foldl mgStep []
theorem mg_app (l : List Sd) (x : Sd) : mg (l ++ [x]) = mgStep (mg l) x := by
  unfold mg; rw [List.foldl_append]; rfl
theorem mg_ok (l : List Sd) (hs : l.Pairwise (fun u v => u.s ≤ v.s)) (hp : ∀ x ∈ l, 0 < x.n) :
    (mg l).Pairwise (fun u v => u.s < v.s) ∧ (∀ x ∈ mg l, 0 < x.n) ∧ (∀ r, sumAt (mg l) r = sumAt l r) ∧ (∀ y ∈ mg l, ∃ x ∈ l, y.s = x.s) := by
  have : ∀ n, n ≤ l.length → (mg (l.take n)).Pairwise (fun u v => u.s < v.s) ∧ (∀ x ∈ mg (l.take n), 0 < x.n) ∧ (∀ r, sumAt (mg (l.take n)) r = sumAt (l.take n) r) ∧ (∀ y ∈ mg (l.take n), ∃ x ∈ l.take n, y.s = x.s) := by
    intro n
    induction n with
    | zero => intro _; exact ⟨List.Pairwise.nil, fun x h => by simp [mg] at h, fun r => rfl, fun x h => by simp [mg] at h⟩
    | succ n ih =>
      intro hn
      obtain ⟨h1, h2, h3, h4⟩ := ih (by omega)
      have hx := hp l[n] (List.getElem_mem _)
      have hle : ∀ y ∈ mg (l.take n), y.s ≤ l[n].s := by
        intro y hy
        obtain ⟨x, hx, e⟩ := h4 y hy
        rw [e]
        obtain ⟨i, hi, rfl⟩ := List.getElem_of_mem hx
        rw [List.length_take] at hi
        rw [List.getElem_take]
        exact List.pairwise_iff_getElem.1 hs i n (by omega) (by omega) (by omega)
      have et : l.take (n + 1) = l.take n ++ [l[n]] := by
        rw [List.take_add_one, List.getElem?_eq_getElem (by omega), Option.toList_some]
      rw [et, mg_app]
      generalize mg (l.take n) = out at *
      generalize l.take n = pre at *
      generalize l[n] = x at *
      unfold mgStep
      rcases List.eq_nil_or_concat out with rfl | ⟨o, y, rfl⟩
      · simp only [List.getLast?_nil]
        refine ⟨List.pairwise_singleton _ _, fun z hz => by simp at hz; rw [hz]; exact hx, fun r => ?_, fun z hz => ⟨x, by simp, by simp at hz; rw [hz]⟩⟩
        have := h3 r
        rw [sumAt_app, ← this]; simp [sumAt]
      · rw [List.concat_eq_append] at *
        simp only [List.getLast?_append, List.getLast?_singleton, Option.some_or, List.dropLast_concat]
        rw [List.pairwise_append] at h1
        obtain ⟨p1, _, p3⟩ := h1
        by_cases he : y.s = x.s
        · rw [if_pos he]
          refine ⟨?_, fun z hz => ?_, fun r => ?_, fun z hz => ?_⟩
          · rw [List.pairwise_append]
            exact ⟨p1, List.pairwise_singleton _ _, fun u hu v hv => by simp at hv; rw [hv]; exact p3 u hu y (by simp)⟩
          · rcases List.mem_append.1 hz with hz | hz
            · exact h2 z (List.mem_append_left _ hz)
            · simp at hz
              have := h2 y (by simp)
              rw [hz]; show 0 < y.n + x.n; omega
          · have := h3 r
            rw [sumAt_app] at this
            rw [sumAt_app, sumAt_app, ← this]
            simp only [sumAt, ← he]
            split <;> omega
          · rcases List.mem_append.1 hz with hz | hz
            · obtain ⟨w, hw, e⟩ := h4 z (List.mem_append_left _ hz)
              exact ⟨w, List.mem_append_left _ hw, e⟩
            · simp at hz
              exact ⟨x, by simp, by rw [hz]; exact he⟩
        · rw [if_neg he]
          refine ⟨?_, fun z hz => ?_, fun r => ?_, fun z hz => ?_⟩
          · rw [List.pairwise_append, List.pairwise_append]
            refine ⟨⟨p1, List.pairwise_singleton _ _, p3⟩, List.pairwise_singleton _ _, fun u hu v hv => ?_⟩
            simp only [List.mem_singleton] at hv
            rw [hv]
            have hyx : y.s < x.s := Rat.not_le.1 (fun h => he (Rat.le_antisymm (hle y (by simp)) h))
            rcases List.mem_append.1 hu with hu | hu
            · exact Std.lt_trans (p3 u hu y (by simp)) hyx
            · simp only [List.mem_singleton] at hu
              rw [hu]; exact hyx
          · rcases List.mem_append.1 hz with hz | hz
            · exact h2 z hz
            · simp at hz; rw [hz]; exact hx
          · rw [sumAt_app (o ++ [y]), sumAt_app pre, h3 r]
          · rcases List.mem_append.1 hz with hz | hz
            · obtain ⟨w, hw, e⟩ := h4 z hz
              exact ⟨w, List.mem_append_left _ hw, e⟩
            · simp at hz
              exact ⟨x, by simp, by rw [hz]⟩
  have := this l.length (Nat.le_refl _)
  rwa [List.take_length] at this
/-- However the sides of two factors are sorted, put together they are the sides of the product. -/
theorem dumas {q : Nat} (hq : Pr q) {f g : List Int} (hf : ∃ i, cf f i ≠ 0) (hg : ∃ i, cf g i ≠ 0) {l : List Sd} (hl : l.Perm (sidesOf (hull (pts q f)) ++ sidesOf (hull (pts q g)))) (hs : l.Pairwise (fun u v => u.s ≤ v.s)) : mg l = sidesOf (hull (pts q (mulP f g))) := by
  have pos : ∀ (f : List Int) (x : Sd), x ∈ sidesOf (hull (pts q f)) → 0 < x.n := by
    intro f x hx
    obtain ⟨s, t, m, a, b, ht, hab, _, rfl⟩ := (side_iff x).1 hx
    show (0 : Int) < (b : Int) - a
    omega
  obtain ⟨h1, h2, h3, _⟩ := mg_ok l hs (fun x hx => by
    rcases List.mem_append.1 (hl.mem_iff.1 hx) with h | h
    · exact pos f x h
    · exact pos g x h)
  refine sums_ext h1 (sides_asc q _) h2 (pos _) fun r => ?_
  rw [h3, sumAt_perm hl, sumAt_app, ← lenAt_sumAt (sides_asc q _), ← lenAt_sumAt (sides_asc q _), ← lenAt_sumAt (sides_asc q _), len_mul hq hf hg]
end Gx
end
section
set_option autoImplicit false
namespace Gx
open Go Go.Proofs
set_option maxRecDepth 10000
theorem r1_FromInt (lk : Nat) (H : Heap) (n : Nat) (hn : n ≤ 9223372036854775807) : gcall Tryz.prog md lk 178 [.int .i64 (n : Int)] H = some (.string (mkS (bytes n)), H) := by
  refine gcall_val rfl Tryz.func178 rfl rfl ?_
  have e1 : IntKind.u64.wrap (n : Int) = (n : Int) := by rw [IntKind.wrap_u64]; omega
  have k1 := fun lk H' => r1_Of lk H' n (by simp only [B64]; omega)
  simp -dsimp only [go_sem, e1, k1]
/-- What is left of a number without a prime. -/
def vq (p n : Nat) : Nat := n / p ^ vp p n
theorem vq_step {p n : Nat} (hp : 2 ≤ p) (hn : n ≠ 0) (h : n % p = 0) : vq p n = vq p (n / p) := by
  unfold vq
  rw [vp_step hp hn h, Nat.pow_succ', Nat.div_div_eq_div_mul]
theorem vq_stop {p n : Nat} (h : ¬ n % p = 0) : vq p n = n := by
  unfold vq; rw [vp_stop h, Nat.pow_zero, Nat.div_one]
theorem r2_Valuation (lk : Nat) (H : Heap) (z : Int) (p : Nat) (hz : z ≠ 0) (hp : 2 ≤ p) (hp2 : p ≤ 100000) (hl : (bytes z.natAbs).length < 1000000) : gcall Tryz.prog md lk 104 [vI z, .int .i64 (p : Int)] H = some (.tuple #[.int .i64 (vp p z.natAbs : Int), .agg #[.bool (decide (z < 0)), .string (mkS (bytes (vq p z.natAbs)))]], H) := by
  refine gcall_val rfl Tryz.func104 rfl rfl ?_
  have k1 := fun lk H' => r1_FromInt lk H' p (by omega)
  have lp := bl_small (n := p) (by omega)
  simp -dsimp only [go_sem, k1]
  refine r_loop (m := fun (s : Nat × Nat) => s.1) (I := fun s σ H' => s.1 ≠ 0 ∧ (bytes s.1).length < 1000000 ∧ s.2 + vp p s.1 = vp p z.natAbs ∧ vq p s.1 = vq p z.natAbs ∧ Ext H H' ∧ (∃ b, H.length ≤ b ∧ σ 2 = .pointer (some ⟨b, 0, none⟩) ∧ ilive H' b = some ⟨[.bool (decide (z < 0)), .string (mkS (bytes s.1))], 2, false⟩) ∧ (∃ b, H.length ≤ b ∧ σ 5 = .pointer (some ⟨b, 0, none⟩) ∧ ilive H' b = some ⟨[.bool false, .string (mkS [])], 2, false⟩ ∧ σ 2 ≠ σ 5) ∧ σ 6 = .int .i64 (s.2 : Int) ∧ σ 7 = .string (mkS (bytes p))) (z.natAbs, 0) ?_ ?_
  · refine ⟨by omega, hl, by simp, rfl, Ext.app _ _, ⟨H.length, Nat.le_refl _, rfl, ?_⟩, ⟨H.length + 1, Nat.le_succ _, rfl, ?_, ?_⟩, rfl, rfl⟩
    · simp -dsimp only [go_sem]
    · simp -dsimp only [go_sem]
    · simp [upd]
  · rintro ⟨x, k⟩ σ H' ⟨hx, hlx, hk, hq, hE, ⟨b, hb0, h2, hb⟩, ⟨c, hc0, h5, hc, hne⟩, h6, h7⟩
    simp only [] at hx hlx hk hq hb h6
    have k2 := fun lk H' => r1_DivMod lk H' x p (by omega) (by omega) (by omega)
    have hvle := vp_le hp x hx
    have hvz := vp_le hp z.natAbs (by omega)
    have hbl := ilive_lt hb
    have hxn : bytes x = [] ↔ False := by rw [bytes_eq_nil]; simp [hx]
    have hcne : c ≠ b := by
      rintro rfl
      exact hne (by rw [h2, h5])
    by_cases h0 : x % p = 0
    · have e7 : IntKind.i64.wrap ((k : Int) + 1) = ((k + 1 : Nat) : Int) := by rw [w64 (by omega) (by omega)]; omega
      have hr : bytes (x % p) = [] ↔ True := by rw [bytes_eq_nil]; simp [h0]
      simp -dsimp only [go_sem, h2, h5, h6, h7, hb, hxn, k2, hr, e7]
      have hn0 : x / p ≠ 0 := by
        intro h
        have := Nat.div_mul_cancel (Nat.dvd_of_mod_eq_zero h0)
        rw [h] at this; omega
      have hlt : x / p < x := Nat.div_lt_self (Nat.pos_of_ne_zero hx) hp
      have hstep := vp_step hp hx h0
      have hqs := vq_step hp hx h0
      have hblx := bl_mono (Nat.le_of_lt hlt)
      refine ⟨hb0, next (x / p, k + 1) hlt ⟨hn0, by simp only []; omega, by simp only []; omega, by simp only []; rw [← hqs]; exact hq, hE.set hb0 _, ⟨b, hb0, h2, ilive_set_self hbl rfl⟩, ⟨c, hc0, h5, ?_, hne⟩, rfl, h7⟩⟩
      rw [ilive_set_ne (fun h => hcne h.symm)]; exact hc
    · have hr : bytes (x % p) = [] ↔ False := by rw [bytes_eq_nil]; simp [h0]
      rw [vp_stop h0, Nat.add_zero] at hk
      rw [vq_stop h0] at hq
      rw [← hk, ← hq]
      have hse : ilive (H'.set c ⟨[.bool (decide (z < 0)), .string (mkS (bytes x))], 2, false⟩) c = some ⟨[.bool (decide (z < 0)), .string (mkS (bytes x))], 2, false⟩ := ilive_set_self (ilive_lt hc) rfl
      simp -dsimp only [go_sem, h2, h5, h6, h7, hb, hc, hxn, k2, hr, hse]
      exact hc0
end Gx
end
section
set_option autoImplicit false
namespace Gx
open Go Go.Proofs
set_option maxRecDepth 10000
theorem r13_above (lk : Nat) (H : Heap) (a b c : Vtx) (ha : SmV a) (hb : SmV b) (hc : SmV c) : gcall Tryz.prog md lk 105 [vV a, vV b, vV c] H = some (.bool (overB a b c), H) := by
  refine gcall_val rfl Tryz.func105 rfl rfl ?_
  obtain ⟨a1, a2, a3, a4⟩ := ha
  obtain ⟨b1, b2, b3, b4⟩ := hb
  obtain ⟨c1, c2, c3, c4⟩ := hc
  have e1 : IntKind.i64.wrap (b.y - a.y) = b.y - a.y := w64 (by omega) (by omega)
  have e2 : IntKind.i64.wrap (c.x - a.x) = c.x - a.x := w64 (by omega) (by omega)
  have e3 : IntKind.i64.wrap (c.y - a.y) = c.y - a.y := w64 (by omega) (by omega)
  have e4 : IntKind.i64.wrap (b.x - a.x) = b.x - a.x := w64 (by omega) (by omega)
  obtain ⟨m1, m2⟩ := mul_small (a := b.y - a.y) (b := c.x - a.x) (by omega) (by omega) (by omega) (by omega)
  obtain ⟨m3, m4⟩ := mul_small (a := c.y - a.y) (b := b.x - a.x) (by omega) (by omega) (by omega) (by omega)
  have e5 : IntKind.i64.wrap ((b.y - a.y) * (c.x - a.x)) = (b.y - a.y) * (c.x - a.x) := w64 (by omega) (by omega)
  have e6 : IntKind.i64.wrap ((c.y - a.y) * (b.x - a.x)) = (c.y - a.y) * (b.x - a.x) := w64 (by omega) (by omega)
  simp -dsimp only [go_sem, e1, e2, e3, e4, e5, e6]
  rfl
theorem r13_CheckPoints (lk : Nat) (H : Heap) (a : Option Addr) (f : List RI) (n : Nat) (p : Int) (hn : n = f.length) (hl : n ≤ 9223372036854775807) (hs : SL H a f) : gcall Tryz.prog md lk 29 [.slice a n n, .int .i64 p] H = some (.int .i64 (nck f p), H) := by
  refine gcall_val rfl Tryz.func29 rfl rfl ?_
  have k1 := fun lk => r11_Check lk H a f n hn hl hs
  have k2 := fun lk H' => r9_IsPrime lk H' p
  unfold nck
  by_cases h1 : ckL f = 0
  · rw [if_neg (fun h => h h1)]
    rw [h1] at k1
    by_cases h2 : 2 ≤ p ∧ p ≤ 65521 ∧ Pr p.toNat
    · rw [if_neg (fun h => h h2)]
      rw [decide_eq_true h2] at k2
      by_cases h3 : f.length = 0
      · have f3 : ((n : Int) = 0) = True := eq_true (by omega)
        rw [if_pos h3]
        simp -dsimp only [go_sem, k1, k2, f3]
      · have f3 : ((n : Int) = 0) = False := eq_false (by omega)
        rw [if_neg h3]
        simp -dsimp only [go_sem, k1, k2, f3]
    · rw [if_pos h2]
      rw [decide_eq_false h2] at k2
      simp -dsimp only [go_sem, k1, k2]
  · rw [if_pos h1]
    have f1 : (ckL f = 0) = False := eq_false h1
    simp -dsimp only [go_sem, k1, f1]
/-- Is the list short, with short numbers? -/
def shortB (f : List RI) (n k : Nat) : Bool := decide (f.length ≤ n) && f.all fun x => decide (x.abs.length ≤ k)
theorem l13_short (lk : Nat) (H : Heap) (a : Option Addr) (f : List RI) (m n k : Nat) (hm : m = f.length) (hl : m ≤ 9223372036854775807) (hs : SL H a f) :
    gcall Tryz.prog md lk 15 [.slice a m m, .int .i64 (n : Int), .int .i64 (k : Int)] H = some (.bool (shortB f n k), H) := by
  subst hm
  refine gcall_val rfl Tryz.func15 rfl rfl ?_
  unfold shortB
  by_cases h1 : f.length ≤ n
  · have f1 : ((n : Int) < ((f.length : Nat) : Int)) = False := eq_false (by omega)
    rw [decide_eq_true h1, Bool.true_and]
    simp -dsimp only [go_sem, f1]
    refine r_loop (m := fun i => f.length - i) (I := fun i σ H' => i ≤ f.length ∧ H' = H ∧ (∀ j (hj : j < f.length), j < i → f[j].abs.length ≤ k) ∧ σ 0 = .slice a f.length f.length ∧ σ 2 = .int .i64 (k : Int) ∧ σ 7 = .int .i64 (i : Int)) 0 ⟨Nat.zero_le _, rfl, fun j _ h => by omega, rfl, rfl, rfl⟩ ?_
    rintro i σ H' ⟨i1, rfl, hA, g0, g2, g5⟩
    by_cases hi : i < f.length
    · have f2 : ((i : Int) < ((f.length : Nat) : Int)) = True := eq_true (by omega)
      obtain ⟨b, o, B, rfl, hB, hz, hg⟩ := hs.ri i hi
      have hc := isub_get hg 1 (by omega)
      simp only [List.getElem?_cons_succ, List.getElem?_cons_zero] at hc
      have e7 : IntKind.i64.wrap ((i : Int) + 1) = ((i + 1 : Nat) : Int) := by rw [w64 (by omega) (by omega)]; omega
      by_cases h8 : f[i].abs.length ≤ k
      · have f3 : ((k : Int) < ((f[i].abs.length : Nat) : Int)) = False := eq_false (by omega)
        simp -dsimp only [go_sem, g0, g2, g5, f2, hB, hz, hi, hc, f3, e7]
        refine next (i + 1) (by show f.length - (i + 1) < f.length - i; omega) ⟨hi, rfl, fun j hj hji => ?_, g0, g2, rfl⟩
        by_cases he : j = i
        · subst he; exact h8
        · exact hA j hj (by omega)
      · have f3 : ((k : Int) < ((f[i].abs.length : Nat) : Int)) = True := eq_true (by omega)
        have hne : (f.all fun x => decide (x.abs.length ≤ k)) = false := by
          apply Bool.eq_false_iff.2
          intro h
          have := List.all_eq_true.1 h _ (List.getElem_mem hi)
          exact h8 (of_decide_eq_true this)
        rw [hne]
        simp -dsimp only [go_sem, g0, g2, g5, f2, hB, hz, hi, hc, f3]
    · have f2 : ((i : Int) < ((f.length : Nat) : Int)) = False := eq_false (by omega)
      have hal : (f.all fun x => decide (x.abs.length ≤ k)) = true := all_take _ _ (fun j hj => decide_eq_true (hA j hj (by omega)))
      rw [hal]
      simp -dsimp only [go_sem, g0, g5, f2]
  · have f1 : ((n : Int) < ((f.length : Nat) : Int)) = True := eq_true (by omega)
    rw [decide_eq_false h1, Bool.false_and]
    simp -dsimp only [go_sem, f1]
theorem r13_Points (lk : Nat) (H : Heap) (a : Option Addr) (f : List Int) (n p : Nat) (hn : n = f.length) (hl : n ≤ 100000) (hp : 2 ≤ p) (hp2 : p ≤ 100000) (hb : ∀ z ∈ f, (bytes z.natAbs).length < 1000000) (hs : SL H a f) :
    gcall Tryz.prog md lk 31 [.slice a n n, .int .i64 (p : Int)] H = some (.slice (mkA H (pts p f)) (pts p f).length (pts p f).length, H ++ mkN (pts p f)) := by
  subst hn
  refine gcall_own rfl Tryz.func31 rfl ?_
  simp -dsimp only [go_sem]
  refine r_loop (m := fun (s : Nat × Option Addr) => f.length - s.1) (I := fun s σ H' => s.1 ≤ f.length ∧ Ext H H' ∧ Own H.length H' s.2 (pts p (f.take s.1)) ∧ (s.2 = none ↔ pts p (f.take s.1) = []) ∧ σ 0 = .slice a f.length f.length ∧ σ 1 = .int .i64 (p : Int) ∧ σ 5 = .slice s.2 (pts p (f.take s.1)).length (pts p (f.take s.1)).length ∧ σ 6 = .int .i64 (s.1 : Int)) (0, none) ?_ ?_
  · exact ⟨Nat.zero_le _, Ext.refl _, Own.nil, by simp [pts, ptsFrom], rfl, rfl, rfl, rfl⟩
  · rintro ⟨i, a2⟩ σ H' ⟨h1, hE, hO, hN, g0, g1, g5, g6⟩
    simp only [] at h1 hO hN g5 g6
    by_cases hi : i < f.length
    · have f1 : ((i : Int) < ((f.length : Nat) : Int)) = True := eq_true (by omega)
      obtain ⟨b, o, B, rfl, hB, hz, hg⟩ := hs.int i hi
      have hB' := hE.live hB
      have hlo := hE.le
      have e7 : IntKind.i64.wrap ((i : Int) + 1) = ((i + 1 : Nat) : Int) := by rw [w64 (by omega) (by omega)]; omega
      have htk := pts_take p f i hi
      have hbz := hb f[i] (List.getElem_mem hi)
      have kz := fun lk H' => r2_IsZero lk H' f[i]
      by_cases h0 : f[i] = 0
      · rw [if_pos h0] at htk
        rw [decide_eq_true h0] at kz
        simp -dsimp only [go_sem, g0, g1, g5, g6, f1, hB', hz, hg, hi, kz, e7]
        refine next (i + 1, a2) (by show f.length - (i + 1) < f.length - i; omega) ⟨hi, hE, ?_, ?_, g0, g1, ?_, rfl⟩
        · simp only [htk]; exact hO
        · simp only [htk]; exact hN
        · simp only [htk]; exact g5
      · rw [if_neg h0] at htk
        rw [decide_eq_false h0] at kz
        have k1 := fun lk H' => r2_Valuation lk H' f[i] p h0 hp hp2 hbz
        have hv := vp_le hp f[i].natAbs (by omega)
        have hO3 := hO.more [⟨[.bool (decide (f[i] < 0)), .string (mkS (bytes (vq p f[i].natAbs)))], 2, false⟩]
        have hap := fun t t2 => ap_own (P := Tryz.prog) (lk := H.length) (t := t) (t2 := t2) hO3 (Nat.le_refl _) rfl [.int .i64 (i : Int), .int .i64 (vp p f[i].natAbs : Int)] 2 rfl rfl
        have hO2 := own_ap (lo := H.length) (H := H' ++ [⟨[.bool (decide (f[i] < 0)), .string (mkS (bytes (vq p f[i].natAbs)))], 2, false⟩]) (a := a2) (l := pts p (f.take i)) (⟨i, vp p f[i].natAbs⟩ : Vtx) [⟨[.int .i64 (i : Int), .int .i64 (vp p f[i].natAbs : Int)], 2, false⟩] (by simp; omega)
        have hE2 : Ext H (kill (H' ++ [⟨[.bool (decide (f[i] < 0)), .string (mkS (bytes (vq p f[i].natAbs)))], 2, false⟩] ++ [⟨[.int .i64 (i : Int), .int .i64 (vp p f[i].natAbs : Int)], 2, false⟩]) a2) := (hO3.more _).kill ((hE.more _).more _)
        rw [← htk] at hO2
        have hlen := pts_len p 0 (f.take i)
        rw [List.length_take, Nat.min_eq_left (by omega)] at hlen
        change (pts p (f.take i)).length ≤ i at hlen
        simp only [List.append_assoc, List.cons_append, List.nil_append, List.length_append, List.length_cons, List.length_nil, Nat.add_assoc, Nat.zero_add, Nat.reduceAdd] at hap hO2 hE2
        simp -dsimp only [go_sem, g0, g1, g5, g6, f1, hB', hz, hg, hi, kz, e7, k1, reps, hlo, hap]
        refine ⟨by omega, next (i + 1, some ⟨H'.length + 2, 0, none⟩) (by show f.length - (i + 1) < f.length - i; omega) ⟨hi, hE2.more _, hO2, by simp [htk], g0, g1, ?_, rfl⟩⟩
        simp only [upd, htk, List.length_append]; rfl
    · have hi' : i = f.length := by omega
      subst hi'
      rw [List.take_length] at hO hN g5
      have hc := compV_mk hO rfl hN (cells_kok (fun x => rfl) _)
      simp -dsimp only [go_sem, g0, g5, g6, Int.lt_irrefl]
      exact hc
end Gx
end
section
set_option autoImplicit false
namespace Gx
open Go Go.Proofs
set_option maxRecDepth 10000
def rowB (l : List Vtx) (k i m : Nat) : Bool := (List.range m).all fun j => !overB (l.getD i v0) (l.getD k v0) (l.getD (k + 1 + j) v0)
def vtxTo (l : List Vtx) (k i : Nat) : Bool := (List.range i).all fun i => rowB l k i (l.length - (k + 1))
theorem rowB_succ (l : List Vtx) (k i m : Nat) : rowB l k i (m + 1) = (rowB l k i m && !overB (l.getD i v0) (l.getD k v0) (l.getD (k + 1 + m) v0)) := by
  unfold rowB; rw [List.range_succ, List.all_append]; simp
theorem vtxTo_succ (l : List Vtx) (k i : Nat) : vtxTo l k (i + 1) = (vtxTo l k i && rowB l k i (l.length - (k + 1))) := by
  unfold vtxTo; rw [List.range_succ, List.all_append]; simp
theorem vtxAt_eq (l : List Vtx) (k : Nat) : vtxAt l k = vtxTo l k k := rfl
theorem lowTo_len (l : List Vtx) (k : Nat) : (lowTo l k).length ≤ k := by
  unfold lowTo
  rw [List.length_map]
  have := List.length_filter_le (fun i => vtxAt l i) (List.range k)
  rw [List.length_range] at this
  exact this
theorem r13_Vertices (lk : Nat) (H : Heap) (a : Option Addr) (f : List Int) (n p : Nat) (hn : n = f.length) (hp : 2 ≤ p) (hp2 : p ≤ 100000) (hg : OkP f) (hs : SL H a f) :
    gcall Tryz.prog md lk 32 [.slice a n n, .int .i64 (p : Int)] H = some (.slice (mkA H (hull (pts p f))) (hull (pts p f)).length (hull (pts p f)).length, H ++ mkN (hull (pts p f))) := by
  subst hn
  refine gcall_own rfl Tryz.func32 rfl ?_
  have hfl := hg.len
  have k1 := fun lk => r13_Points lk H a f f.length p rfl (by omega) hp hp2 (fun z hz => by have := hg.small z hz; omega) hs
  have hsm := pts_small hp hg
  have hinc := (pts_from p 0 f).1
  have hpl := pts_len p 0 f
  change (pts p f).length ≤ f.length at hpl
  change (pts p f).Pairwise _ at hinc
  have hS := mk_sl H (pts p f)
  rw [← hull_low hinc]
  simp -dsimp only [go_sem, k1]
  generalize pts p f = l at *
  have hH1 : H.length ≤ (H ++ mkN l).length := by rw [List.length_append]; omega
  have hX : Ext H (H ++ mkN l) := Ext.app _ _
  refine r_loop (m := fun (s : Nat × Option Addr) => l.length - s.1) (I := fun s σ H' => s.1 ≤ l.length ∧ Ext (H ++ mkN l) H' ∧ Own (H ++ mkN l).length H' s.2 (lowTo l s.1) ∧ (s.2 = none ↔ lowTo l s.1 = []) ∧ σ 5 = .slice s.2 (lowTo l s.1).length (lowTo l s.1).length ∧ σ 6 = .slice (mkA H l) l.length l.length ∧ σ 7 = .int .i64 (s.1 : Int)) (0, none) ?_ ?_
  · exact ⟨Nat.zero_le _, Ext.refl _, Own.nil, by simp [lowTo], rfl, rfl, rfl⟩
  · generalize H ++ mkN l = H1 at *
    rintro ⟨k, a2⟩ σ H' ⟨h1, hE, hO, hN, g5, g6, g7⟩
    simp only [] at h1 hO hN g5 g7
    by_cases hk : k < l.length
    · have f1 : ((k : Int) < ((l.length : Nat) : Int)) = True := eq_true (by omega)
      have e1 : IntKind.i64.wrap ((k : Int) + 1) = ((k + 1 : Nat) : Int) := by rw [w64 (by omega) (by omega)]; omega
      obtain ⟨b, o, B, hbo, hB, hz, hgt, _, _⟩ := hS.allV (by omega)
      rw [hbo] at g6
      have hB' := hE.live hB
      have hlo := hE.le
      have vk := hsm _ (List.getElem_mem hk)
      simp -dsimp only [go_sem, g5, g6, g7, f1]
      refine r_loop (m := fun i => k - i) (I := fun i σ H2 => i ≤ k ∧ H2 = H' ∧ σ 5 = .slice a2 (lowTo l k).length (lowTo l k).length ∧ σ 6 = .slice (some ⟨b, o, none⟩) l.length l.length ∧ σ 7 = .int .i64 (k : Int) ∧ σ 8 = .bool (vtxTo l k i) ∧ σ 9 = .int .i64 (i : Int)) 0 ⟨Nat.zero_le _, rfl, g5, g6, g7, rfl, rfl⟩ ?_
      rintro i σ H2 ⟨i1, rfl, g5, g6, g7, g8, g9⟩
      by_cases hi : i < k
      · have f2 : ((i : Int) < (k : Int)) = True := eq_true (by omega)
        have e2 : IntKind.i64.wrap ((i : Int) + 1) = ((i + 1 : Nat) : Int) := by rw [w64 (by omega) (by omega)]; omega
        have hil : i < l.length := by omega
        have vi := hsm _ (List.getElem_mem hil)
        simp -dsimp only [go_sem, g5, g6, g7, g8, g9, f2, e1]
        refine r_loop (m := fun m => l.length - m) (I := fun m σ H3 => k + 1 + m ≤ l.length ∧ H3 = H2 ∧ σ 5 = .slice a2 (lowTo l k).length (lowTo l k).length ∧ σ 6 = .slice (some ⟨b, o, none⟩) l.length l.length ∧ σ 7 = .int .i64 (k : Int) ∧ σ 8 = .bool (vtxTo l k i && rowB l k i m) ∧ σ 9 = .int .i64 (i : Int) ∧ σ 10 = .int .i64 ((k + 1 + m : Nat) : Int)) 0 ⟨hk, rfl, g5, g6, g7, by rw [show rowB l k i 0 = true from rfl, Bool.and_true]; exact g8, g9, rfl⟩ ?_
        rintro m σ H3 ⟨m1, rfl, g5, g6, g7, g8, g9, g10⟩
        by_cases hm : k + 1 + m < l.length
        · have f3 : (((k + 1 + m : Nat) : Int) < ((l.length : Nat) : Int)) = True := eq_true (by omega)
          have e3 : IntKind.i64.wrap (((k + 1 + m : Nat) : Int) + 1) = ((k + 1 + (m + 1) : Nat) : Int) := by rw [w64 (by omega) (by omega)]; omega
          have hrs := rowB_succ l k i m
          simp only [List.getD, List.getElem?_eq_getElem hil, List.getElem?_eq_getElem hk, List.getElem?_eq_getElem hm, Option.getD_some] at hrs
          have vj := hsm _ (List.getElem_mem hm)
          have ka := fun lk H' => r13_above lk H' l[i] l[k] l[k + 1 + m] vi vk vj
          have gi := hgt i hil
          have gk := hgt k hk
          have gj := hgt (k + 1 + m) hm
          cases hb : (vtxTo l k i && rowB l k i m) with
          | false =>
            rw [hb] at g8
            simp -dsimp only [go_sem, g6, g8, g9, g10, f3, e3]
            exact next (m + 1) (by show l.length - (m + 1) < l.length - m; omega) ⟨by omega, rfl, g5, g6, g7, by rw [hrs, ← Bool.and_assoc, hb]; rfl, g9, rfl⟩
          | true =>
            rw [hb] at g8
            simp -dsimp only [go_sem, g6, g7, g8, g9, g10, f3, e3, hB', hz, gi, gk, gj, hil, hk, hm, ka]
            exact next (m + 1) (by show l.length - (m + 1) < l.length - m; omega) ⟨by omega, rfl, g5, g6, g7, by rw [hrs, ← Bool.and_assoc, hb]; rfl, g9, rfl⟩
        · have f3 : (((k + 1 + m : Nat) : Int) < ((l.length : Nat) : Int)) = False := eq_false (by omega)
          have hmm : m = l.length - (k + 1) := by omega
          rw [hmm, ← vtxTo_succ] at g8
          simp -dsimp only [go_sem, g6, g9, g10, f3, e2]
          exact next (i + 1) (by show k - (i + 1) < k - i; omega) ⟨hi, rfl, g5, g6, g7, g8, rfl⟩
      · have f2 : ((i : Int) < (k : Int)) = False := eq_false (by omega)
        have hik : i = k := by omega
        subst hik
        have hsu := lowTo_succ l i
        simp only [List.getD, List.getElem?_eq_getElem hk, Option.getD_some] at hsu
        rw [vtxAt_eq] at hsu
        have hll := lowTo_len l i
        cases hb : vtxTo l i i with
        | false =>
          rw [hb] at g8
          rw [hb, if_neg (by decide)] at hsu
          simp -dsimp only [go_sem, g7, g8, g9, f2, e1]
          refine next (i + 1, a2) (by show l.length - (i + 1) < l.length - i; omega) ⟨hk, hE, ?_, ?_, ?_, by rw [hbo]; exact g6, rfl⟩
          · simp only [hsu]; exact hO
          · simp only [hsu]; exact hN
          · simp only [hsu]; exact g5
        | true =>
          rw [hb] at g8
          rw [hb, if_pos rfl] at hsu
          have gk := hgt i hk
          have hap := fun t t2 => ap_own (P := Tryz.prog) (lk := H.length) (t := t) (t2 := t2) hO hH1 rfl [.int .i64 l[i].x, .int .i64 l[i].y] 2 rfl rfl
          have hO2 := own_ap (lo := H1.length) (H := H2) (a := a2) (l := lowTo l i) l[i] [⟨[.int .i64 l[i].x, .int .i64 l[i].y], 2, false⟩] (by simp; omega)
          have hE2 : Ext H1 (kill (H2 ++ [⟨[.int .i64 l[i].x, .int .i64 l[i].y], 2, false⟩]) a2) := (hO.more _).kill (hE.more _)
          rw [← hsu] at hO2
          simp -dsimp only [go_sem, g5, g6, g7, g8, g9, f2, e1, hB', hz, gk, hk, reps, hap]
          refine ⟨by omega, next (i + 1, some ⟨H2.length + 1, 0, none⟩) (by show l.length - (i + 1) < l.length - i; omega) ⟨hk, hE2.more _, hO2, by simp [hsu], ?_, by rw [hbo]; exact g6, rfl⟩⟩
          simp only [upd, hsu, List.length_append]; rfl
    · have hk' : k = l.length := by omega
      subst hk'
      have hc := compV_mk (hO.low hH1) rfl hN (cells_kok (fun x => rfl) _)
      simp -dsimp only [go_sem, g5, g6, g7, Int.lt_irrefl]
      exact hc
end Gx
end
section
set_option autoImplicit false
namespace Gx
open Go Go.Proofs
set_option maxRecDepth 10000
def IncV (l : List Vtx) : Prop := ∀ i (h : i + 1 < l.length), l[i].x < l[i + 1].x
theorem r13_Sides (lk : Nat) (H : Heap) (a : Option Addr) (f : List Int) (n p : Nat) (hn : n = f.length) (hp : 2 ≤ p) (hp2 : p ≤ 100000) (hg : OkP f) (hs : SL H a f) :
    gcall Tryz.prog md lk 33 [.slice a n n, .int .i64 (p : Int)] H = some (.slice (mkA H (sidesOf (hull (pts p f)))) (sidesOf (hull (pts p f))).length (sidesOf (hull (pts p f))).length, H ++ mkN (sidesOf (hull (pts p f)))) := by
  refine gcall_own rfl Tryz.func33 rfl ?_
  have hfl := hg.len
  have k1 := fun lk => r13_Vertices lk H a f n p hn hp hp2 hg hs
  have hv : ∀ v ∈ hull (pts p f), SmV v := fun v h => pts_small hp hg v (hull_mem h)
  have hx : IncV (hull (pts p f)) := hull_inc (l := pts p f) (pts_from p 0 f).1
  have hpl := pts_len p 0 f
  change (pts p f).length ≤ f.length at hpl
  have hhl := hull_len (pts p f)
  have hS := mk_sl H (hull (pts p f))
  simp -dsimp only [go_sem, k1]
  have hl : (hull (pts p f)).length ≤ 100000 := by omega
  generalize hull (pts p f) = l at *
  have hH1 : H.length ≤ (H ++ mkN l).length := by rw [List.length_append]; omega
  generalize mkA H l = a0 at *
  refine r_loop (m := fun (s : Nat × Option Addr) => l.length - s.1) (I := fun s σ H' => (s.1 = 0 ∨ s.1 < l.length) ∧ Ext (H ++ mkN l) H' ∧ Own (H ++ mkN l).length H' s.2 (sidesTo l s.1) ∧ (s.2 = none ↔ sidesTo l s.1 = []) ∧ σ 6 = .slice a0 l.length l.length ∧ σ 5 = .slice s.2 s.1 s.1 ∧ σ 7 = .int .i64 ((s.1 + 1 : Nat) : Int)) (0, none) ?_ ?_
  · exact ⟨.inl rfl, Ext.refl _, Own.nil, by simp [sidesTo], rfl, rfl, rfl⟩
  · generalize H ++ mkN l = H1 at *
    rintro ⟨i, a2⟩ σ H' ⟨h1, hE, hO, hN, g0, g4, g5⟩
    simp only [] at h1 hO hN g4 g5
    by_cases hi : i + 1 < l.length
    · have f1 : (((i + 1 : Nat) : Int) < ((l.length : Nat) : Int)) = True := eq_true (by omega)
      have hi0 : i < l.length := by omega
      obtain ⟨b, o, B, rfl, hB, hz, hg⟩ := hS.vtx i hi0
      obtain ⟨b2, o2, B2, heq, hB2, hz2, hg2⟩ := hS.vtx (i + 1) hi
      cases heq
      rw [hB] at hB2
      cases hB2
      have hB' := hE.live hB
      have hlo := hE.le
      have e1 : IntKind.i64.wrap (((i + 1 : Nat) : Int) - 1) = (i : Int) := by rw [w64 (by omega) (by omega)]; omega
      have e7 : IntKind.i64.wrap (((i + 1 : Nat) : Int) + 1) = ((i + 1 + 1 : Nat) : Int) := by rw [w64 (by omega) (by omega)]; omega
      have v1 := hv _ (List.getElem_mem hi0)
      have v2 := hv _ (List.getElem_mem hi)
      have hlt := hx i hi
      obtain ⟨x1, x2, x3, x4⟩ := v1
      obtain ⟨y1, y2, y3, y4⟩ := v2
      have k := fun lk H' => r3_Of lk H' (l[i + 1].y - l[i].y) (l[i + 1].x - l[i].x) (by omega) (by omega) (by omega)
      have hsucc := sidesTo_succ l i
      simp only [List.getD, List.getElem?_eq_getElem hi0, List.getElem?_eq_getElem hi, Option.getD_some] at hsucc
      have e3 : IntKind.i64.wrap (l[i + 1].x - l[i].x) = l[i + 1].x - l[i].x := w64 (by omega) (by omega)
      have e4 : IntKind.i64.wrap (l[i + 1].y - l[i].y) = l[i + 1].y - l[i].y := w64 (by omega) (by omega)
      have hap := fun t t2 => ap_own (P := Tryz.prog) (lk := H.length) (t := t) (t2 := t2) hO hH1 (sidesTo_len l i).symm (Enc.enc (sideOf l[i] l[i + 1])) 4 rfl rfl
      have hO2 := own_ap (lo := H1.length) (H := H') (a := a2) (l := sidesTo l i) (sideOf l[i] l[i + 1]) [⟨Enc.enc (sideOf l[i] l[i + 1]), 4, false⟩] (by simp; omega)
      have hE2 : Ext H1 (kill (H' ++ [⟨Enc.enc (sideOf l[i] l[i + 1]), 4, false⟩]) a2) := (hO.more _).kill (hE.more _)
      rw [← hsucc] at hO2
      have henc : Enc.enc (sideOf l[i] l[i + 1]) = [Value.bool (decide ((Rat.divInt (l[i + 1].y - l[i].y) (l[i + 1].x - l[i].x)).num < 0)), .string (mkS (bytes (Rat.divInt (l[i + 1].y - l[i].y) (l[i + 1].x - l[i].x)).num.natAbs)), .string (mkS (bytes (Rat.divInt (l[i + 1].y - l[i].y) (l[i + 1].x - l[i].x)).den)), .int .i64 (l[i + 1].x - l[i].x)] := rfl
      rw [henc] at hap hO2 hE2
      have hil : i < l.length := hi0
      have hc1 : B.c[o + i * 2]? = some (.int .i64 l[i].x) := isub_get hg 0 (by omega)
      have hc2 : B.c[o + (i + 1) * 2]? = some (.int .i64 l[i + 1].x) := isub_get hg2 0 (by omega)
      have hd1 : B.c[o + i * 2 + 1]? = some (.int .i64 l[i].y) := isub_get hg 1 (by omega)
      have hd2 : B.c[o + (i + 1) * 2 + 1]? = some (.int .i64 l[i + 1].y) := isub_get hg2 1 (by omega)
      simp -dsimp only [go_sem, g0, g4, g5, f1, e1, e3, e4, e7, hB', hz, hi, hil, k, reps, hap, hlo, hc1, hc2, hd1, hd2]
      exact ⟨by omega, next (i + 1, some ⟨H'.length + 1, 0, none⟩) (by show l.length - (i + 1) < l.length - i; omega) ⟨.inr hi, hE2.more _, hO2, by simp [hsucc], g0, rfl, rfl⟩⟩
    · have f1 : (((i + 1 : Nat) : Int) < ((l.length : Nat) : Int)) = False := eq_false (by omega)
      have hil : i = l.length - 1 := by omega
      subst hil
      have hc := compV_mk (hO.low hH1) (sidesTo_len l _).symm hN (cells_kok (fun x => rfl) _)
      simp -dsimp only [go_sem, g0, g4, g5, f1]
      rw [hc]
      unfold sidesOf
      rw [sidesTo_len]
theorem r1_UintL (lk : Nat) (H : Heap) (l : List UInt8) (hl : l.length ≤ 1000000000) : gcall Tryz.prog md lk 246 [.string (mkS l)] H = some (.tuple #[.int .u64 ((if l.length ≤ 8 then bval l else 0 : Nat) : Int), .bool (decide (l.length ≤ 8))], H) := by
  refine gcall_val rfl Tryz.func246 rfl rfl ?_
  by_cases h8 : l.length ≤ 8
  · have f1 : (8 < ((l.length : Nat) : Int)) = False := eq_false (by omega)
    rw [decide_eq_true h8, if_pos h8]
    simp -dsimp only [go_sem, f1]
    refine r_loop (m := fun i => l.length - i) (I := fun i σ H' => i ≤ l.length ∧ H' = H ∧ σ 0 = .string (mkS l) ∧ σ 4 = .int .u64 ((bval (l.take i) : Nat) : Int) ∧ σ 5 = .int .i64 (i : Int)) 0 ⟨Nat.zero_le _, rfl, rfl, rfl, rfl⟩ ?_
    rintro i σ H' ⟨i1, rfl, g0, g4, g5⟩
    by_cases hi : i < l.length
    · have f2 : ((i : Int) < ((l.length : Nat) : Int)) = True := eq_true (by omega)
      have hb : l[i].toNat < 256 := l[i].toNat_lt
      have hbt := bval_take l i hi
      have hlt := bval_lt (l.take i)
      have hp : 256 ^ (l.take i).length ≤ 256 ^ 7 := Nat.pow_le_pow_right (by decide) (by rw [List.length_take]; omega)
      have hp7 : (256 : Nat) ^ 7 = 72057594037927936 := by decide
      have c1 : IntKind.u64.wrap (((bval (l.take i) : Nat) : Int) * 256) = ((bval (l.take i) * 256 : Nat) : Int) := by
        rw [IntKind.wrap_u64]; omega
      have c2 : IntKind.u64.wrap ((l[i].toNat : Nat) : Int) = ((l[i].toNat : Nat) : Int) := u64n (by omega)
      have c3 : IntKind.u64.wrap (((bval (l.take i) * 256 : Nat) : Int) + ((l[i].toNat : Nat) : Int)) = ((bval (l.take (i + 1)) : Nat) : Int) := by
        rw [IntKind.wrap_u64, hbt]; omega
      have e7 : IntKind.i64.wrap ((i : Int) + 1) = ((i + 1 : Nat) : Int) := by rw [w64 (by omega) (by omega)]; omega
      simp -dsimp only [go_sem, g0, g4, g5, f2, hi, byt_mkS l i hi, c1, c2, c3, e7]
      exact next (i + 1) (by show l.length - (i + 1) < l.length - i; omega) ⟨hi, rfl, g0, rfl, rfl⟩
    · have f2 : ((i : Int) < ((l.length : Nat) : Int)) = False := eq_false (by omega)
      have hii : i = l.length := by omega
      subst hii
      rw [List.take_length] at g4
      simp -dsimp only [go_sem, g0, g4, g5, f2]
  · have f1 : (8 < ((l.length : Nat) : Int)) = True := eq_true (by omega)
    rw [decide_eq_false h8, if_neg h8]
    simp -dsimp only [go_sem, f1, Int.natCast_zero]
/-- A number that is not negative as a machine integer. -/
theorem r2_ToIntP (lk : Nat) (H : Heap) (n : Nat) (hl : (bytes n).length ≤ 1000000000) : gcall Tryz.prog md lk 179 [.agg #[.bool false, .string (mkS (bytes n))]] H = some (.tuple #[.int .i64 (if n ≤ 9223372036854775807 then (n : Int) else 0), .bool (decide (n ≤ 9223372036854775807))], H) := by
  refine gcall_val rfl Tryz.func179 rfl rfl ?_
  have k1 := fun lk H' => r1_UintL lk H' (bytes n) hl
  rw [bval_bytes] at k1
  by_cases h8 : (bytes n).length ≤ 8
  · rw [decide_eq_true h8, if_pos h8] at k1
    by_cases hn : n ≤ 9223372036854775807
    · have f1 : (9223372036854775808 < (n : Int)) = False := eq_false (by omega)
      have f2 : ((n : Int) = 9223372036854775808) = False := eq_false (by omega)
      have e1 : IntKind.i64.wrap (n : Int) = (n : Int) := w64 (by omega) (by omega)
      rw [decide_eq_true hn, if_pos hn]
      simp -dsimp only [go_sem, k1, f1, f2, e1]
    · rw [decide_eq_false hn, if_neg hn]
      by_cases h9 : n = 9223372036854775808
      · have f1 : (9223372036854775808 < (n : Int)) = False := eq_false (by omega)
        have f2 : ((n : Int) = 9223372036854775808) = True := eq_true (by omega)
        simp -dsimp only [go_sem, k1, f1, f2]
      · have f1 : (9223372036854775808 < (n : Int)) = True := eq_true (by omega)
        simp -dsimp only [go_sem, k1, f1]
  · rw [decide_eq_false h8, if_neg h8] at k1
    have hn : ¬ n ≤ 9223372036854775807 := fun h => h8 (bl_small (by omega))
    rw [decide_eq_false hn, if_neg hn]
    simp -dsimp only [go_sem, k1, Int.natCast_zero]
/-- A denominator of at most 64, or 0. -/
def whole (q : Rat) : Int := if q.den ≤ 64 then (q.den : Int) else 0
theorem r13_whole (lk : Nat) (H : Heap) (q : Rat) (hl : (bytes q.den).length ≤ 1000000000) : gcall Tryz.prog md lk 106 [vR q] H = some (.int .i64 (whole q), H) := by
  refine gcall_val rfl Tryz.func106 rfl rfl ?_
  have k1 := fun lk H' => r2_ToIntP lk H' q.den hl
  unfold whole
  by_cases hn : q.den ≤ 9223372036854775807
  · rw [decide_eq_true hn, if_pos hn] at k1
    by_cases h6 : q.den ≤ 64
    · have f1 : (64 < (q.den : Int)) = False := eq_false (by omega)
      rw [if_pos h6]
      simp -dsimp only [go_sem, k1, f1]
    · have f1 : (64 < (q.den : Int)) = True := eq_true (by omega)
      rw [if_neg h6]
      simp -dsimp only [go_sem, k1, f1]
  · rw [decide_eq_false hn, if_neg hn] at k1
    rw [if_neg (by omega)]
    simp -dsimp only [go_sem, k1]
theorem sides_len64 {p : Nat} {f : List Int} (h : OkP f) : ∀ s ∈ sidesOf (hull (pts p f)), 1 ≤ s.n ∧ s.n ≤ 64 ∧ s.s.den ≤ 64 := by
  intro s hs
  have hx : ∀ i (hi : i + 1 < (hull (pts p f)).length), (hull (pts p f))[i].x < (hull (pts p f))[i + 1].x := hull_inc (l := pts p f) (pts_from p 0 f).1
  unfold sidesOf sidesTo at hs
  obtain ⟨i, hi, rfl⟩ := List.mem_map.1 hs
  rw [List.mem_range] at hi
  have hi0 : i < (hull (pts p f)).length := by omega
  have hi1 : i + 1 < (hull (pts p f)).length := by omega
  have hlen := h.len
  obtain ⟨a1, a2, _⟩ := (pts_from p 0 f).2 _ (hull_mem (List.getElem_mem hi0))
  obtain ⟨b1, b2, _⟩ := (pts_from p 0 f).2 _ (hull_mem (List.getElem_mem hi1))
  have := hx i hi1
  simp only [List.getD, List.getElem?_eq_getElem hi0, List.getElem?_eq_getElem hi1, Option.getD_some, sideOf]
  have d1 := rat_den_le ((hull (pts p f))[i + 1].y - (hull (pts p f))[i].y) ((hull (pts p f))[i + 1].x - (hull (pts p f))[i].x) (by omega)
  exact ⟨by omega, by omega, by omega⟩
theorem r13_IsPure (lk : Nat) (H : Heap) (a : Option Addr) (g : List Int) (q n : Nat) (hn : n = g.length) (hs : SL H a g) (hg : OkP g) (h2 : 2 ≤ q) (h3 : q ≤ 65521) (h5 : 0 < g.length) :
    gcall Tryz.prog md lk 34 [.slice a n n, .int .i64 (q : Int)] H = some (.bool (pureB q g), H) := by
  refine gcall_val rfl Tryz.func34 rfl rfl ?_
  have hlen := hg.len
  have k1 := fun lk => r13_Sides lk H a g n q hn h2 (by omega) hg hs
  obtain ⟨b, o, B, rfl, hB, hz, hgt⟩ := hs.int 0 h5
  rw [Nat.zero_mul, Nat.add_zero] at hgt
  have hB' := ilive_app (N := mkN (sidesOf (hull (pts q g)))) hB
  have hsm := sides_len64 (p := q) hg
  have hS := mk_sl H (sidesOf (hull (pts q g)))
  have hg0 : g.getD 0 0 = g[0] := by simp [List.getD, h5]
  have f1 : (0 : Int) < ((n : Nat) : Int) := by omega
  have kz := fun lk H' => r2_IsZero lk H' g[0]
  unfold pureB
  rw [hg0]
  generalize sidesOf (hull (pts q g)) = S at *
  by_cases h0 : g[0] = 0
  · rw [decide_eq_false (fun h => h h0), Bool.false_and]
    rw [decide_eq_true h0] at kz
    simp -dsimp only [go_sem, k1, hB', hz, hgt, eq_true f1, kz]
  · rw [decide_eq_true h0, Bool.true_and]
    rw [decide_eq_false h0] at kz
    by_cases hl : S.length = 1
    · obtain ⟨x, rfl⟩ := List.length_eq_one_iff.1 hl
      obtain ⟨b2, o2, B2, hb2, hB2, hz2, hg2⟩ := hS.sd 0 (by simp)
      rw [Nat.zero_mul, Nat.add_zero] at hg2
      obtain ⟨x1, x2, x3⟩ := hsm x (by simp)
      have lx := bl_small (n := x.s.den) (by omega)
      have k2 := fun lk H' => r13_whole lk H' x.s (by omega)
      have hd : whole x.s = (x.s.den : Int) := by unfold whole; rw [if_pos (by omega)]
      rw [hd] at k2
      have hc := isub_get hg2 3 (by omega)
      have hg3 := isub_cut hg2 (show 3 ≤ 4 by omega)
      simp only [List.getElem_cons_zero, List.getElem?_cons_succ, List.getElem?_cons_zero, List.take_succ_cons, List.take_zero] at hg2 hc hg3
      simp only [List.length_singleton] at *
      rw [hb2] at k1
      simp -dsimp only [go_sem, k1, hB', hz, hgt, eq_true f1, kz, hB2, hz2, hg2, hg3, k2, hc]
    · have f2 : (((S.length : Nat) : Int) = 1) = False := eq_false (by omega)
      simp -dsimp only [go_sem, k1, hB', hz, hgt, eq_true f1, kz, f2]
      congr 3
      split
      · simp at hl
      · rfl
theorem p_IsPureBad (lk : Nat) (H : Heap) (a : Option Addr) (f : List RI) (n : Nat) (p : Int) (hn : n = f.length) (hl : n ≤ 9223372036854775807) (hs : SL H a f) (h : nck f p ≠ 0) :
    gcall Tryz.prog md lk 28 [.slice a n n, .int .i64 p] H = some (.tuple #[.bool false, .int .i64 (nck f p)], H) := by
  refine gcall_val rfl Tryz.func28 rfl rfl ?_
  have k1 := fun lk => (p_Sides lk H a f n p hn hl hs).1 h
  have f1 : (nck f p = 0) = False := eq_false h
  simp -dsimp only [go_sem, k1, f1]
end Gx
end
section
set_option autoImplicit false
namespace Gx
open Go Go.Proofs
set_option maxRecDepth 10000
theorem r1_Pow (lk : Nat) (H : Heap) (X K : Nat) (hX : 1 ≤ X) (hK : K ≤ 1000000) (hl : (bytes (X ^ K)).length < 10000000) (hl1 : (bytes X).length < 10000000) : gcall Tryz.prog md lk 87 [.string (mkS (bytes X)), .int .i64 (K : Int)] H = some (.string (mkS (bytes (X ^ K))), H) := by
  refine gcall_val rfl Tryz.func87 rfl rfl ?_
  have one : bytes 1 = [1] := bytes_one
  have k1 := fun lk H' => r1_Of lk H' 1 (by decide)
  simp only [Int.natCast_one] at k1
  simp -dsimp only [go_sem, k1]
  refine r_loop (m := fun (s : Nat × Nat × Nat) => s.2.2) (I := fun s σ H' => H' = H ∧ s.1 * s.2.1 ^ s.2.2 = X ^ K ∧ 1 ≤ s.1 ∧ 1 ≤ s.2.1 ∧ s.2.2 ≤ K ∧ (bytes s.2.1).length < 30000000 ∧ σ 0 = .string (mkS (bytes s.2.1)) ∧ σ 1 = .int .i64 (s.2.2 : Int) ∧ σ 5 = .string (mkS (bytes s.1))) (1, X, K) ?_ ?_
  · exact ⟨rfl, Nat.one_mul _, Nat.le_refl _, hX, Nat.le_refl _, by simp only []; omega, rfl, rfl, rfl⟩
  · rintro ⟨c, x, k⟩ σ H' ⟨rfl, hp, hc, hx, hk, hlx, g0, g1, g5⟩
    simp only [] at hp hc hx hk hlx g0 g1 g5
    by_cases h0 : 0 < k
    · have f1 : (0 < (k : Int)) = True := eq_true (by omega)
      have hxk : x ≤ x ^ k := by
        have := Nat.pow_le_pow_right hx (show 1 ≤ k by omega)
        rwa [Nat.pow_one] at this
      have hxp : x ≤ X ^ K := by
        rw [← hp]
        exact Nat.le_trans hxk (Nat.le_mul_of_pos_left _ hc)
      have hcp : c ≤ X ^ K := by
        rw [← hp]; exact Nat.le_mul_of_pos_right _ (Nat.pow_pos hx)
      have b1 := bl_mono hxp
      have b2 := bl_mono hcp
      have b3 := bl_mul x x
      have e1 : IntKind.i64.wrap ((k : Int).tmod 2) = ((k % 2 : Nat) : Int) := by
        rw [Int.tmod_eq_emod_of_nonneg (by omega), w64 (by omega) (by omega)]; omega
      have e2 : IntKind.i64.wrap ((k : Int).tdiv 2) = ((k / 2 : Nat) : Int) := by
        rw [Int.tdiv_eq_ediv_of_nonneg (by omega), w64 (by omega) (by omega)]; omega
      have e3 : Int.tmod (k : Int) 2 = ((k % 2 : Nat) : Int) := by
        rw [Int.tmod_eq_emod_of_nonneg (by omega)]; omega
      have m1 := fun lk H' => r1_Mul lk H' c x (by omega) (by omega)
      have m2 := fun lk H' => r1_Mul lk H' x x (by omega) (by omega)
      have hkk : k = 2 * (k / 2) + k % 2 := by omega
      by_cases ho : k % 2 = 1
      · have f2 : (((k % 2 : Nat) : Int) = 1) = True := eq_true (by omega)
        simp -dsimp only [go_sem, g0, g1, g5, f1, e1, e2, e3, f2, m1, m2]
        refine next (c * x, x * x, k / 2) (by show k / 2 < k; omega) ⟨rfl, ?_, Nat.mul_pos hc hx, Nat.mul_pos hx hx, by simp only []; omega, by simp only []; omega, rfl, rfl, rfl⟩
        simp only []
        rw [← hp]
        conv => rhs; rw [hkk, ho, Nat.pow_succ, Nat.pow_mul]
        rw [Nat.pow_two]
        rw [Nat.mul_comm ((x * x) ^ (k / 2)) x, Nat.mul_assoc]
      · have f2 : (((k % 2 : Nat) : Int) = 1) = False := eq_false (by omega)
        simp -dsimp only [go_sem, g0, g1, g5, f1, e1, e2, e3, f2, m1, m2]
        refine next (c, x * x, k / 2) (by show k / 2 < k; omega) ⟨rfl, ?_, hc, Nat.mul_pos hx hx, by simp only []; omega, by simp only []; omega, rfl, rfl, g5⟩
        simp only []
        rw [← hp]
        conv => rhs; rw [hkk, show k % 2 = 0 by omega, Nat.add_zero, Nat.pow_mul]
        rw [Nat.pow_two]
    · have f1 : (0 < (k : Int)) = False := eq_false (by omega)
      have hk0 : k = 0 := by omega
      subst hk0
      rw [Nat.pow_zero, Nat.mul_one] at hp
      rw [hp] at g5
      simp -dsimp only [go_sem, g1, g5, f1]
theorem r2_Pow (lk : Nat) (H : Heap) (X K : Nat) (hX : 1 ≤ X) (hK : K ≤ 1000000) (hl : (bytes (X ^ K)).length < 10000000) (hl1 : (bytes X).length < 10000000) : gcall Tryz.prog md lk 17 [vI (X : Int), .int .i64 (K : Int)] H = some (vI ((X ^ K : Nat) : Int), H) := by
  refine gcall_val rfl Tryz.func17 rfl rfl ?_
  have k1 := fun lk H' => r1_Pow lk H' X K hX hK hl hl1
  have f1 : decide ((X : Int) < 0) = false := decide_eq_false (by omega)
  have f2 : (X : Int).natAbs = X := Int.natAbs_natCast X
  have e1 : sg false (X ^ K) = ((X ^ K : Nat) : Int) := rfl
  simp -dsimp only [go_sem, f1, f2, k1, r2_Make, e1]
theorem r2_Neg (lk : Nat) (H : Heap) (z : Int) : gcall Tryz.prog md lk 101 [vI z] H = some (vI (-z), H) := by
  refine gcall_val rfl Tryz.func101 rfl rfl ?_
  simp -dsimp only [go_sem, r2_Make, sg_neg, sg_self]
theorem r3_Neg (lk : Nat) (H : Heap) (q : Rat) : gcall Tryz.prog md lk 25 [vR q] H = some (vR (-q), H) := by
  refine gcall_val rfl Tryz.func25 rfl rfl ?_
  simp -dsimp only [go_sem, r2_Neg]
  exact vR_mk _ _ _ (Rat.neg_num q) (Rat.neg_den q)
theorem r3_Whole (lk : Nat) (H : Heap) (z : Int) : gcall Tryz.prog md lk 97 [vI z] H = some (vR (z : Rat), H) := by
  refine gcall_val rfl Tryz.func97 rfl rfl ?_
  have one : [1] = bytes 1 := bytes_one.symm
  simp -dsimp only [go_sem, one]
  exact vR_mk _ _ _ rfl rfl
theorem r3_Add (lk : Nat) (H : Heap) (a b : Rat) (h1 : (bytes a.num.natAbs).length < 1000000) (h2 : (bytes b.num.natAbs).length < 1000000) (h3 : (bytes a.den).length < 1000000) (h4 : (bytes b.den).length < 1000000) :
    gcall Tryz.prog md lk 22 [vR a, vR b] H = some (vR (a + b), H) := by
  refine gcall_val rfl Tryz.func22 rfl rfl ?_
  have one : [1] = bytes 1 := bytes_one.symm
  have k1 := fun lk H' => r2_Mul lk H' a.num b.den (by omega) (by rw [Int.natAbs_natCast]; omega)
  have k2 := fun lk H' => r2_Mul lk H' b.num a.den (by omega) (by rw [Int.natAbs_natCast]; omega)
  have k3 := fun lk H' => r2_Mul lk H' (a.den : Int) (b.den : Int) (by rw [Int.natAbs_natCast]; omega) (by rw [Int.natAbs_natCast]; omega)
  have l1 := bl_mul a.num.natAbs b.den
  have l2 := bl_mul b.num.natAbs a.den
  have l3 := bl_mul a.den b.den
  have n1 : (a.num * (b.den : Int)).natAbs = a.num.natAbs * b.den := by rw [Int.natAbs_mul, Int.natAbs_natCast]
  have n2 : (b.num * (a.den : Int)).natAbs = b.num.natAbs * a.den := by rw [Int.natAbs_mul, Int.natAbs_natCast]
  have n3 : ((a.den : Int) * (b.den : Int)).natAbs = a.den * b.den := by rw [Int.natAbs_mul, Int.natAbs_natCast, Int.natAbs_natCast]
  have l4 := bl_add (a.num.natAbs * b.den) (b.num.natAbs * a.den)
  have l5 : (bytes ((a.num * (b.den : Int) + b.num * (a.den : Int)).natAbs)).length ≤ (bytes (a.num.natAbs * b.den + b.num.natAbs * a.den)).length := by
    apply bl_mono
    have := Int.natAbs_add_le (a.num * (b.den : Int)) (b.num * (a.den : Int))
    omega
  have k4 := fun lk H' => r2_Add lk H' (a.num * (b.den : Int)) (b.num * (a.den : Int)) (by rw [n1]; omega) (by rw [n2]; omega)
  have d1 := a.den_nz
  have d2 := b.den_nz
  have hd : ((a.den : Int) * (b.den : Int)) ≠ 0 := by
    intro h
    rcases Int.mul_eq_zero.1 h with h | h <;> omega
  have k5 := fun lk H' => r3_Make lk H' (a.num * (b.den : Int) + b.num * (a.den : Int)) ((a.den : Int) * (b.den : Int)) hd (by omega) (by rw [n3]; omega)
  have hab : Rat.divInt (a.num * (b.den : Int) + b.num * (a.den : Int)) ((a.den : Int) * (b.den : Int)) = a + b := by
    conv => rhs; rw [← Rat.num_divInt_den a, ← Rat.num_divInt_den b]
    rw [Rat.divInt_add_divInt _ _ (by omega) (by omega)]
  rw [hab] at k5
  have k6 := fun lk H' => r2_Add lk H' a.num b.num (by omega) (by omega)
  by_cases h : a.den = 1 ∧ b.den = 1
  · obtain ⟨e1, e2⟩ := h
    have f1 : (a.den = 1) = True := eq_true e1
    have f2 : (b.den = 1) = True := eq_true e2
    have hs : ((a.num + b.num : Int) : Rat) = a + b := by
      rw [Rat.intCast_add]
      have w : ∀ q : Rat, q.den = 1 → ((q.num : Int) : Rat) = q := fun q h => Rat.ext rfl h.symm
      rw [w a e1, w b e2]
    have k7 := fun lk H' => r3_Whole lk H' (a.num + b.num)
    rw [hs] at k7
    simp -dsimp only [go_sem, one, bytes_inj, f1, f2, k6, k7]
  · by_cases e1 : a.den = 1
    · have f1 : (a.den = 1) = True := eq_true e1
      have f2 : (b.den = 1) = False := eq_false (fun e2 => h ⟨e1, e2⟩)
      simp -dsimp only [go_sem, one, bytes_inj, f1, f2, r3_denominator, k1, k2, k3, k4, k5]
    · have f1 : (a.den = 1) = False := eq_false e1
      simp -dsimp only [go_sem, one, bytes_inj, f1, r3_denominator, k1, k2, k3, k4, k5]
theorem r3_FitsS (lk : Nat) (H : Heap) (q : Rat) (h1 : (bytes q.num.natAbs).length ≤ 1024) (h2 : (bytes q.den).length ≤ 1024) : gcall Tryz.prog md lk 95 [vR q] H = some (.int .i64 0, H) := by
  refine gcall_val rfl Tryz.func95 rfl rfl ?_
  have k1 : ∀ lk H', gcall Tryz.prog md lk 170 [vI q.num] H' = some (.int .i64 0, H') := fun lk H' => by
    have := r2_Fits lk H' (ofI q.num)
    rw [if_neg (by show ¬ 1024 < (bytes q.num.natAbs).length; omega)] at this; exact this
  have k2 : ∀ lk H', gcall Tryz.prog md lk 171 [.string (mkS (bytes q.den))] H' = some (.int .i64 0, H') := fun lk H' => by
    rw [r1_Fits, if_neg (by omega)]
  simp -dsimp only [go_sem, k1, k2]
theorem r3_CheckS (lk : Nat) (H : Heap) (q : Rat) (h1 : (bytes q.num.natAbs).length ≤ 1024) (h2 : (bytes q.den).length ≤ 1024) : gcall Tryz.prog md lk 21 [vR q] H = some (.int .i64 0, H) := by
  refine gcall_val rfl Tryz.func21 rfl rfl ?_
  have hd : q.den ≠ 0 := q.den_nz
  have hdn : bytes q.den = [] ↔ False := by rw [bytes_eq_nil]; simp [hd]
  have k1 : ∀ lk H', gcall Tryz.prog md lk 93 [vI q.num] H' = some (.bool true, H') := fun lk H' => by
    have := r2_Valid lk H' (ofI q.num)
    have e : (decide ((ofI q.num).abs.head? ≠ some 0) && (!(ofI q.num).neg || decide ((ofI q.num).abs ≠ []))) = true := by
      unfold ofI
      simp only [Bool.and_eq_true, decide_eq_true_eq, Bool.or_eq_true, Bool.not_eq_true', decide_eq_false_iff_not, ne_eq]
      refine ⟨fun h => bytes_ne_zero _ 0 h rfl, ?_⟩
      by_cases h : q.num < 0
      · right; rw [bytes_eq_nil]; omega
      · left; omega
    rw [e] at this; exact this
  have k2 : ∀ lk H', gcall Tryz.prog md lk 94 [.string (mkS (bytes q.den))] H' = some (.bool true, H') := fun lk H' => by
    rw [r1_Valid, decide_eq_true]
    intro h; exact bytes_ne_zero _ _ h rfl
  have k3 := fun lk H' => r1_Gcd lk H' q.num.natAbs q.den (by omega) (by omega)
  have hg : Nat.gcd q.num.natAbs q.den = 1 := q.reduced
  rw [hg] at k3
  have one : [1] = bytes 1 := bytes_one.symm
  have k4 := fun lk H' => r3_FitsS lk H' q h1 h2
  simp -dsimp only [go_sem, k1, k2, hdn, k3, k4, one]
end Gx
end
section
set_option autoImplicit false
namespace Gx
open Go Go.Proofs
set_option maxRecDepth 10000
theorem p_SumCmp (lk : Nat) (H : Heap) (x y : Sd) (h1 : (bytes x.s.num.natAbs).length < 1000000) (h2 : (bytes y.s.num.natAbs).length < 1000000) (h3 : (bytes x.s.den).length < 1000000) (h4 : (bytes y.s.den).length < 1000000) :
    gcall Tryz.prog md lk 149 [vSd x, vSd y] H = some (.int .i64 (rcmp x.s y.s), H) := by
  refine gcall_val rfl Tryz.func149 rfl rfl ?_
  have k1 := fun lk H' => c_Cmp lk H' x.s y.s (by omega) (by omega) (by omega) (by omega)
  simp -dsimp only [go_sem, k1]
end Gx
end
