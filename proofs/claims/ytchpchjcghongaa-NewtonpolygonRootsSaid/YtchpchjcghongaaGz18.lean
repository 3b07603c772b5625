/- Lemmas: plain facts, or contracts of functions that are reached, in the interpreter without world and addresses. -/
import Derived.Test.YtchpchjcghongaaGz3
import Derived.Test.YtchpchjcghongaaGz17
set_option linter.all false
set_option linter.unusedVariables false
set_option linter.unusedSimpArgs false
set_option linter.unnecessarySimpa false
set_option linter.deprecated false
section
/- The lower hull by its definition. -/
set_option autoImplicit false
namespace Gx
theorem inc_ext {a b : List Vtx} (ha : a.Pairwise (fun u v => u.x < v.x)) (hb : b.Pairwise (fun u v => u.x < v.x)) (h : ∀ v, v ∈ a ↔ v ∈ b) : a = b := by
  induction a generalizing b with
  | nil =>
    cases b with
    | nil => rfl
    | cons y s => exact absurd ((h y).2 (by simp)) (by simp)
  | cons x r ih =>
    cases b with
    | nil => exact absurd ((h x).1 (by simp)) (by simp)
    | cons y s =>
      rw [List.pairwise_cons] at ha hb
      have hxy : x = y := by
        have h1 := (h x).1 (by simp)
        have h2 := (h y).2 (by simp)
        rcases List.mem_cons.1 h1 with h1 | h1
        · exact h1
        · rcases List.mem_cons.1 h2 with h2 | h2
          · exact h2.symm
          · have := hb.1 _ h1; have := ha.1 _ h2; omega
      subst hxy
      congr 1
      refine ih ha.2 hb.2 fun v => ⟨fun hv => ?_, fun hv => ?_⟩
      · rcases List.mem_cons.1 ((h v).1 (List.mem_cons_of_mem _ hv)) with h1 | h1
        · subst h1; have := ha.1 _ hv; omega
        · exact h1
      · rcases List.mem_cons.1 ((h v).2 (List.mem_cons_of_mem _ hv)) with h1 | h1
        · subst h1; have := hb.1 _ hv; omega
        · exact h1
/-- A point below all lines between a point on its left and one on its right. -/
def Low (l : List Vtx) (v : Vtx) : Prop := ∀ a ∈ l, ∀ c ∈ l, a.x < v.x → v.x < c.x → 0 < cr a v c
theorem between (n : Nat) (f : Nat → Int) (y : Int) (h0 : f 0 < y) (hn : y < f n) (hne : ∀ i, i ≤ n → f i ≠ y) : ∃ i, i < n ∧ f i < y ∧ y < f (i + 1) := by
  induction n with
  | zero => omega
  | succ n ih =>
    by_cases h : y < f n
    · obtain ⟨i, h1, h2⟩ := ih h (fun i hi => hne i (by omega))
      exact ⟨i, by omega, h2⟩
    · have := hne n (by omega)
      exact ⟨n, by omega, by omega, hn⟩
theorem HI.mem {l out : List Vtx} (h : HI l out) (hl : l.Pairwise (fun a b => a.x < b.x)) (v : Vtx) : v ∈ out ↔ v ∈ l ∧ Low l v := by
  have hol := hl.sublist h.sub
  have hmem : ∀ i, i < out.length → out.getD i v0 ∈ l := fun i hi => h.sub.subset (getD_mem hi)
  constructor
  · intro hv
    refine ⟨h.sub.subset hv, fun a ha c hc h1 h2 => ?_⟩
    obtain ⟨i, hi, rfl⟩ := List.getElem_of_mem hv
    have e : ∀ j (hj : j < out.length), out[j] = out.getD j v0 := fun j hj => by simp [List.getD, hj]
    rw [e i hi] at h1 h2 ⊢
    have hi0 : i ≠ 0 := by
      rintro rfl
      have := (h.first a ha).2; omega
    obtain ⟨j, rfl⟩ : ∃ j, i = j + 1 := ⟨i - 1, by omega⟩
    have hin : j + 2 < out.length := by
      apply Nat.lt_of_not_le
      intro hle
      have := h.last c hc
      rw [show out.length - 1 = j + 1 by omega] at this
      omega
    have k1 := h.above j (by omega) a ha
    have k2 := h.above (j + 1) (by omega) c hc
    have k3 := h.chain j hin
    have x1 := inc_getD hol (show j < j + 1 by omega) (by omega)
    have x2 := inc_getD hol (show j + 1 < j + 2 by omega) hin
    generalize out.getD j v0 = u at *
    generalize out.getD (j + 1) v0 = v at *
    rw [show j + 1 + 1 = j + 2 from rfl] at k2
    generalize out.getD (j + 2) v0 = w at *
    have k4 : 0 ≤ dd a v u v := by
      unfold cr at k1
      rw [dd_anti, dd_neg]; omega
    rw [cr_eq] at k2
    unfold cr at k3
    exact dd_lt_le h1 x2 h2 (dd_le_lt h1 x1 x2 k4 k3) k2
  · rintro ⟨hv, hlow⟩
    apply Classical.byContradiction
    intro hno
    have hne : ∀ i, i < out.length → (out.getD i v0).x ≠ v.x := by
      intro i hi he
      have := inc_eq hl (hmem i hi) hv he
      rw [← this] at hno
      exact hno (getD_mem hi)
    obtain ⟨f1, f2⟩ := h.first v hv
    have f3 := h.last v hv
    have := hne 0 f1
    have := hne (out.length - 1) (by omega)
    obtain ⟨i, h1, h2, h3⟩ := between (out.length - 1) (fun i => (out.getD i v0).x) v.x (by show (out.getD 0 v0).x < v.x; omega) (by show v.x < (out.getD (out.length - 1) v0).x; omega) (fun i hi => hne i (by omega))
    have k1 := h.above i (by omega) v hv
    have k2 := hlow _ (hmem i (by omega)) _ (hmem (i + 1) (by omega)) h2 h3
    rw [cr_eq] at k1 k2
    rw [dd_anti] at k2
    omega
/-- The hull is what stays below. -/
theorem hull_mem_iff {l : List Vtx} (hl : l.Pairwise (fun a b => a.x < b.x)) (v : Vtx) : v ∈ hull l ↔ v ∈ l ∧ Low l v := (hull_HI l hl).mem hl v
/-- Is the point k a vertex? -/
def vtxAt (l : List Vtx) (k : Nat) : Bool := (List.range k).all fun i => (List.range (l.length - (k + 1))).all fun j => !overB (l.getD i v0) (l.getD k v0) (l.getD (k + 1 + j) v0)
def lowTo (l : List Vtx) (k : Nat) : List Vtx := ((List.range k).filter fun i => vtxAt l i).map fun i => l.getD i v0
theorem lowTo_succ (l : List Vtx) (k : Nat) : lowTo l (k + 1) = if vtxAt l k = true then lowTo l k ++ [l.getD k v0] else lowTo l k := by
  unfold lowTo
  rw [List.range_succ, List.filter_append, List.map_append]
  by_cases h : vtxAt l k = true
  · simp [h]
  · simp [h]
theorem vtxAt_low {l : List Vtx} (hl : l.Pairwise (fun a b => a.x < b.x)) {k : Nat} (hk : k < l.length) : vtxAt l k = true ↔ Low l (l.getD k v0) := by
  unfold vtxAt Low
  rw [List.all_eq_true]
  constructor
  · intro h a ha c hc h1 h2
    obtain ⟨i, hi, rfl⟩ := List.getElem_of_mem ha
    obtain ⟨j, hj, rfl⟩ := List.getElem_of_mem hc
    have e : ∀ j (hj : j < l.length), l[j] = l.getD j v0 := fun j hj => by simp [List.getD, hj]
    rw [e i hi] at h1 ⊢
    rw [e j hj] at h2 ⊢
    have hik : i < k := by
      apply Nat.lt_of_not_le
      intro hle
      rcases Nat.lt_or_eq_of_le hle with h3 | h3
      · have := inc_getD hl h3 hi; omega
      · subst h3; omega
    have hkj : k < j := by
      apply Nat.lt_of_not_le
      intro hle
      rcases Nat.lt_or_eq_of_le hle with h3 | h3
      · have := inc_getD hl h3 hk; omega
      · subst h3; omega
    have h3 := h i (List.mem_range.2 hik)
    rw [List.all_eq_true] at h3
    have h4 := h3 (j - (k + 1)) (List.mem_range.2 (by omega))
    rw [show k + 1 + (j - (k + 1)) = j by omega, overB_cr] at h4
    simpa using h4
  · intro h i hi
    rw [List.mem_range] at hi
    rw [List.all_eq_true]
    intro j hj
    rw [List.mem_range] at hj
    have := h _ (getD_mem (show i < l.length by omega)) _ (getD_mem (show k + 1 + j < l.length by omega)) (inc_getD hl hi hk) (inc_getD hl (by omega) (by omega))
    rw [overB_cr]
    simpa using this
theorem hull_low {l : List Vtx} (hl : l.Pairwise (fun a b => a.x < b.x)) : lowTo l l.length = hull l := by
  have hmap : ∀ n, n ≤ l.length → (lowTo l n).Sublist (l.take n) := by
    intro n
    induction n with
    | zero => intro _; simp [lowTo]
    | succ n ih =>
      intro hn
      have e : l.take (n + 1) = l.take n ++ [l.getD n v0] := by
        rw [List.take_add_one, List.getElem?_eq_getElem (by omega), Option.toList_some]
        simp [List.getD, show n < l.length by omega]
      rw [lowTo_succ, e]
      split
      · exact List.Sublist.append (ih (by omega)) (List.Sublist.refl _)
      · exact (ih (by omega)).trans (List.sublist_append_left _ _)
  have h1 := hmap l.length (Nat.le_refl _)
  rw [List.take_length] at h1
  refine inc_ext (hl.sublist h1) (hl.sublist (hull_HI l hl).sub) fun v => ?_
  rw [hull_mem_iff hl]
  constructor
  · intro hv
    refine ⟨h1.subset hv, ?_⟩
    unfold lowTo at hv
    obtain ⟨i, hi, rfl⟩ := List.mem_map.1 hv
    rw [List.mem_filter, List.mem_range] at hi
    exact (vtxAt_low hl hi.1).1 hi.2
  · rintro ⟨hv, hlow⟩
    obtain ⟨i, hi, rfl⟩ := List.getElem_of_mem hv
    have e : l[i] = l.getD i v0 := by simp [List.getD, hi]
    rw [e] at hlow ⊢
    unfold lowTo
    exact List.mem_map.2 ⟨i, List.mem_filter.2 ⟨List.mem_range.2 hi, (vtxAt_low hl hi).2 hlow⟩, rfl⟩
end Gx
end
section
/- Newton polygons of polynomials that are scaled, stretched and reversed. -/
set_option autoImplicit false
namespace Gx
theorem vp_mul_pow {q n : Nat} (hq : 2 ≤ q) (hn : n ≠ 0) (k : Nat) : vp q (n * q ^ k) = vp q n + k := by
  induction k with
  | zero => simp
  | succ k ih =>
    have h1 : n * q ^ (k + 1) = n * q ^ k * q := by rw [Nat.pow_succ, Nat.mul_assoc]
    have h0 : n * q ^ k ≠ 0 := Nat.mul_ne_zero hn (Nat.ne_of_gt (Nat.pow_pos (by omega)))
    rw [h1, vp_step hq (Nat.mul_ne_zero h0 (by omega)) (Nat.mul_mod_left _ _), Nat.mul_div_cancel _ (by omega), ih]; omega
theorem mul_pow_zero {q : Nat} (hq : 2 ≤ q) (z : Int) (k : Nat) : z * ((q ^ k : Nat) : Int) = 0 ↔ z = 0 := by
  have : ((q ^ k : Nat) : Int) ≠ 0 := by
    have := Nat.pow_pos (n := k) (show 0 < q by omega)
    omega
  constructor
  · intro h
    rcases Int.mul_eq_zero.1 h with h | h
    · exact h
    · exact absurd h this
  · rintro rfl; simp
theorem vp_mulI {q : Nat} (hq : 2 ≤ q) {z : Int} (hz : z ≠ 0) (k : Nat) : vp q (z * ((q ^ k : Nat) : Int)).natAbs = vp q z.natAbs + k := by
  rw [Int.natAbs_mul, Int.natAbs_natCast, vp_mul_pow hq (by omega)]
def shY (k : Nat) (v : Vtx) : Vtx := ⟨v.x, v.y + k⟩
def stY (v : Vtx) : Vtx := ⟨v.x, v.y + v.x⟩
theorem pts_scaled {q : Nat} (hq : 2 ≤ q) (k i : Nat) (g : List Int) : ptsFrom q i (g.map fun z => z * ((q ^ k : Nat) : Int)) = (ptsFrom q i g).map (shY k) := by
  induction g generalizing i with
  | nil => rfl
  | cons z r ih =>
    simp only [List.map_cons, ptsFrom, ih, mul_pow_zero hq]
    by_cases hz : z = 0
    · rw [if_pos hz, if_pos hz]
    · rw [if_neg hz, if_neg hz, List.map_cons, vp_mulI hq hz]
      congr 1
def strF (q : Nat) : Nat → List Int → List Int
  | _, [] => []
  | i, z :: r => z * ((q ^ i : Nat) : Int) :: strF q (i + 1) r
theorem strF_len (q i : Nat) (g : List Int) : (strF q i g).length = g.length := by
  induction g generalizing i with
  | nil => rfl
  | cons z r ih => simp [strF, ih]
theorem strF_app (q i : Nat) (f g : List Int) : strF q i (f ++ g) = strF q i f ++ strF q (i + f.length) g := by
  induction f generalizing i with
  | nil => simp [strF]
  | cons z r ih =>
    simp only [List.cons_append, strF, ih, List.length_cons]
    rw [show i + 1 + r.length = i + (r.length + 1) by omega]
theorem strF_get (q i : Nat) (g : List Int) (j : Nat) (h : j < g.length) : (strF q i g)[j]'(by rw [strF_len]; exact h) = g[j] * ((q ^ (i + j) : Nat) : Int) := by
  induction g generalizing i j with
  | nil => simp at h
  | cons z r ih =>
    cases j with
    | zero => simp [strF]
    | succ j =>
      simp only [strF, List.getElem_cons_succ]
      rw [ih (i + 1) j (by simpa using h), show i + 1 + j = i + (j + 1) by omega]
theorem pts_stretched {q : Nat} (hq : 2 ≤ q) (i : Nat) (g : List Int) : ptsFrom q i (strF q i g) = (ptsFrom q i g).map stY := by
  induction g generalizing i with
  | nil => rfl
  | cons z r ih =>
    simp only [strF, ptsFrom, ih, mul_pow_zero hq]
    by_cases hz : z = 0
    · rw [if_pos hz, if_pos hz]
    · rw [if_neg hz, if_neg hz, List.map_cons, vp_mulI hq hz]
      congr 1
/-- A map that keeps who lies above whom. -/
theorem popTo_map (φ : Vtx → Vtx) (hφ : ∀ a b c, overB (φ a) (φ b) (φ c) = overB a b c) (out : List Vtx) (x : Vtx) (k : Nat) (h : k ≤ out.length) : popTo (out.map φ) (φ x) k = popTo out x k := by
  induction k with
  | zero => rfl
  | succ k ih =>
    cases k with
    | zero => rfl
    | succ k =>
      have h1 : k < out.length := by omega
      have h2 : k + 1 < out.length := by omega
      unfold popTo
      rw [ih (by omega)]
      simp only [List.getD, List.getElem?_map, List.getElem?_eq_getElem h1, List.getElem?_eq_getElem h2, Option.map_some, Option.getD_some, hφ]
theorem hull_map (φ : Vtx → Vtx) (hφ : ∀ a b c, overB (φ a) (φ b) (φ c) = overB a b c) (l : List Vtx) : hull (l.map φ) = (hull l).map φ := by
  have : ∀ (l out : List Vtx), (l.map φ).foldl hullStep (out.map φ) = (l.foldl hullStep out).map φ := by
    intro l
    induction l with
    | nil => intro out; rfl
    | cons x r ih =>
      intro out
      simp only [List.map_cons, List.foldl_cons]
      rw [← ih]
      congr 1
      unfold hullStep
      rw [List.length_map, popTo_map φ hφ out x _ (Nat.le_refl _), List.map_append, List.map_take]; rfl
  exact this l []
theorem over_shY (k : Nat) (a b c : Vtx) : overB (shY k a) (shY k b) (shY k c) = overB a b c := by
  unfold overB shY
  apply decide_eq_decide.2
  simp only []
  rw [show c.y + (k : Int) - (a.y + k) = c.y - a.y by omega, show b.y + (k : Int) - (a.y + k) = b.y - a.y by omega]
theorem over_stY (a b c : Vtx) : overB (stY a) (stY b) (stY c) = overB a b c := by
  rw [overB_cr, overB_cr]
  apply decide_eq_decide.2
  have : cr (stY a) (stY b) (stY c) = cr a b c := by unfold cr dd stY; grind
  rw [this]
theorem sides_shY (k : Nat) (l : List Vtx) : sidesOf (l.map (shY k)) = sidesOf l := by
  unfold sidesOf sidesTo
  rw [List.length_map]
  apply List.map_congr_left
  intro j hj
  rw [List.mem_range] at hj
  have h1 : j < l.length := by omega
  have h2 : j + 1 < l.length := by omega
  simp only [List.getD, List.getElem?_map, List.getElem?_eq_getElem h1, List.getElem?_eq_getElem h2, Option.map_some, Option.getD_some, sideOf, shY]
  rw [show l[j + 1].y + (k : Int) - (l[j].y + k) = l[j + 1].y - l[j].y by omega]
theorem divInt_one_add {n d : Int} (hd : d ≠ 0) : Rat.divInt (n + d) d = Rat.divInt n d + 1 := by
  have h : (1 : Rat) = Rat.divInt 1 1 := rfl
  rw [h, Rat.divInt_add_divInt _ _ hd (by decide), Int.mul_one, Int.mul_one, Int.one_mul]
theorem sides_stY (l : List Vtx) (hx : ∀ i (h : i + 1 < l.length), l[i].x < l[i + 1].x) : sidesOf (l.map stY) = (sidesOf l).map fun s => ⟨s.s + 1, s.n⟩ := by
  unfold sidesOf sidesTo
  rw [List.length_map, List.map_map]
  apply List.map_congr_left
  intro j hj
  rw [List.mem_range] at hj
  have h1 : j < l.length := by omega
  have h2 : j + 1 < l.length := by omega
  have := hx j h2
  simp only [Function.comp, List.getD, List.getElem?_map, List.getElem?_eq_getElem h1, List.getElem?_eq_getElem h2, Option.map_some, Option.getD_some, sideOf, stY]
  rw [show l[j + 1].y + l[j + 1].x - (l[j].y + l[j].x) = l[j + 1].y - l[j].y + (l[j + 1].x - l[j].x) by omega, divInt_one_add (by omega)]
/-- The mirror. -/
def fl (n : Nat) (v : Vtx) : Vtx := ⟨(n : Int) - 1 - v.x, v.y⟩
theorem ptsFrom_shift (q i : Nat) (g : List Int) : ptsFrom q i g = (ptsFrom q 0 g).map fun v => ⟨v.x + i, v.y⟩ := by
  have : ∀ (i j : Nat) (g : List Int), ptsFrom q (i + j) g = (ptsFrom q j g).map fun v => ⟨v.x + i, v.y⟩ := by
    intro i j g
    induction g generalizing j with
    | nil => rfl
    | cons z r ih =>
      simp only [ptsFrom]
      rw [show i + j + 1 = i + (j + 1) by omega, ih]
      by_cases hz : z = 0
      · rw [if_pos hz, if_pos hz]
      · rw [if_neg hz, if_neg hz, List.map_cons]
        congr 1
        have : ((i + j : Nat) : Int) = (j : Int) + (i : Int) := by omega
        rw [this]
  exact this i 0 g
theorem pts_rev (q : Nat) (g : List Int) : pts q g.reverse = ((pts q g).map (fl g.length)).reverse := by
  unfold pts
  induction g with
  | nil => rfl
  | cons z r ih =>
    rw [List.reverse_cons, ptsFrom_app, ih, List.length_reverse, Nat.zero_add]
    have e : ptsFrom q 0 (z :: r) = (if z = 0 then [] else [⟨0, vp q z.natAbs⟩]) ++ ptsFrom q 1 r := by
      simp only [ptsFrom]
      split <;> simp
    rw [e, ptsFrom_shift q 1 r, List.map_append, List.reverse_append, List.map_map]
    congr 1
    · congr 1
      apply List.map_congr_left
      intro v _
      unfold fl
      simp only [Function.comp, List.length_cons]
      congr 1
      omega
    · simp only [ptsFrom]
      by_cases hz : z = 0
      · rw [if_pos hz, if_pos hz]; rfl
      · rw [if_neg hz, if_neg hz]
        simp only [List.map_cons, List.map_nil, List.reverse_singleton, fl, List.length_cons]
        congr 2
        omega
theorem fl_fl (n : Nat) (v : Vtx) : fl n (fl n v) = v := by
  cases v with
  | mk x y => simp only [fl]; congr 1; omega
theorem fl_inj {n : Nat} {a b : Vtx} (h : fl n a = fl n b) : a = b := by rw [← fl_fl n a, h, fl_fl]
theorem cr_fl (n : Nat) (a b c : Vtx) : cr (fl n c) (fl n b) (fl n a) = cr a b c := by unfold cr dd fl; grind
theorem inc_fl {l : List Vtx} (n : Nat) (h : l.Pairwise (fun a b => a.x < b.x)) : ((l.map (fl n)).reverse).Pairwise (fun a b => a.x < b.x) := by
  rw [List.pairwise_reverse, List.pairwise_map]
  refine h.imp ?_
  intro a b h
  show (n : Int) - 1 - b.x < (n : Int) - 1 - a.x
  omega
theorem hull_rev (n : Nat) {l : List Vtx} (h : l.Pairwise (fun a b => a.x < b.x)) : hull ((l.map (fl n)).reverse) = ((hull l).map (fl n)).reverse := by
  refine inc_ext ((inc_fl n h).sublist (hull_sub _)) (inc_fl n (h.sublist (hull_sub _))) fun v => ?_
  have hm : ∀ (l : List Vtx) (v : Vtx), v ∈ (l.map (fl n)).reverse ↔ fl n v ∈ l := by
    intro l v
    rw [List.mem_reverse, List.mem_map]
    constructor
    · rintro ⟨a, ha, rfl⟩; rw [fl_fl]; exact ha
    · intro hv; exact ⟨fl n v, hv, fl_fl n v⟩
  rw [hull_mem_iff (inc_fl n h), hm, hm, hull_mem_iff h]
  refine and_congr_right fun _ => ?_
  unfold Low
  constructor
  · intro hl a ha c hc h1 h2
    have e1 : (fl n v).x = (n : Int) - 1 - v.x := rfl
    have k := hl (fl n c) (by rw [hm, fl_fl]; exact hc) (fl n a) (by rw [hm, fl_fl]; exact ha) (by show (n : Int) - 1 - c.x < v.x; omega) (by show v.x < (n : Int) - 1 - a.x; omega)
    have := cr_fl n a (fl n v) c
    rw [fl_fl] at this
    rw [← this]; exact k
  · intro hl a ha c hc h1 h2
    rw [hm] at ha hc
    have k := hl _ hc _ ha (by show (n : Int) - 1 - c.x < (n : Int) - 1 - v.x; omega) (by show (n : Int) - 1 - v.x < (n : Int) - 1 - a.x; omega)
    rw [cr_fl] at k
    exact k
theorem sides_rev (n : Nat) (l : List Vtx) (k : Nat) (h : k < (sidesOf l).length) : ∃ h2 : k < (sidesOf ((l.map (fl n)).reverse)).length, ∃ h3 : (sidesOf l).length - 1 - k < (sidesOf l).length,
    (sidesOf ((l.map (fl n)).reverse))[k].n = (sidesOf l)[(sidesOf l).length - 1 - k].n ∧ (sidesOf ((l.map (fl n)).reverse))[k].s = -(sidesOf l)[(sidesOf l).length - 1 - k].s := by
  have hlen : ∀ l : List Vtx, (sidesOf l).length = l.length - 1 := fun l => by unfold sidesOf; rw [sidesTo_len]
  have hl := hlen l
  have hl2 := hlen ((l.map (fl n)).reverse)
  rw [List.length_reverse, List.length_map] at hl2
  refine ⟨by omega, by omega, ?_⟩
  rw [sides_get _ k (by rw [List.length_reverse, List.length_map]; omega), sides_get l ((sidesOf l).length - 1 - k) (by omega)]
  simp only [List.getElem_reverse, List.getElem_map, List.length_map, sideOf, fl, hl]
  have e1 : l.length - 1 - (k + 1) = l.length - 1 - 1 - k := by omega
  have e2 : l.length - 1 - k = l.length - 1 - 1 - k + 1 := by omega
  have g1 : l[l.length - 1 - (k + 1)]'(by omega) = l[l.length - 1 - 1 - k]'(by omega) := by congr 1
  have g2 : l[l.length - 1 - k]'(by omega) = l[l.length - 1 - 1 - k + 1]'(by omega) := by congr 1
  rw [g1, g2]
  refine ⟨by omega, ?_⟩
  rw [Rat.neg_divInt]
  congr 1 <;> omega
end Gx
end
section
/- Newton polygons of products. -/
set_option autoImplicit false
namespace Gx
theorem pr_dvd_mul {q a b : Nat} (hq : Pr q) (h : q ∣ a * b) : q ∣ a ∨ q ∣ b := by
  by_cases ha : q ∣ a
  · exact .inl ha
  · right
    have h2q := hq.1
    have hg : Nat.gcd q a = 1 := by
      have h1 := Nat.gcd_dvd_left q a
      have hpos : 0 < Nat.gcd q a := Nat.gcd_pos_of_pos_left _ (by omega)
      have hle := Nat.le_of_dvd (by omega) h1
      by_cases h2 : Nat.gcd q a = q
      · have h3 := Nat.gcd_dvd_right q a
        rw [h2] at h3
        exact absurd h3 ha
      · by_cases h3 : 2 ≤ Nat.gcd q a
        · exact absurd (Nat.mod_eq_zero_of_dvd h1) (hq.2 _ (by omega) h3)
        · omega
    exact Nat.Coprime.dvd_of_dvd_mul_left (show Nat.Coprime q a from hg) h
theorem vp_dvd {q n : Nat} (hq : 2 ≤ q) (hn : n ≠ 0) (e : Nat) : q ^ e ∣ n ↔ e ≤ vp q n := by
  constructor
  · rintro ⟨c, rfl⟩
    have hc : c ≠ 0 := by rintro rfl; simp at hn
    rw [Nat.mul_comm, vp_mul_pow hq hc]; omega
  · intro h
    obtain ⟨m, h1, _⟩ := vp_pow hq n hn
    conv => rhs; rw [h1]
    exact Nat.dvd_trans (Nat.pow_dvd_pow q h) (Nat.dvd_mul_left _ _)
theorem vp_mul {q a b : Nat} (hq : Pr q) (ha : a ≠ 0) (hb : b ≠ 0) : vp q (a * b) = vp q a + vp q b := by
  obtain ⟨m, h1, h2⟩ := vp_pow hq.1 a ha
  obtain ⟨m', h3, h4⟩ := vp_pow hq.1 b hb
  have e : a * b = (m * m') * q ^ (vp q a + vp q b) := by
    rw [Nat.pow_add]
    conv => lhs; rw [h1, h3]
    ac_rfl
  have hm : m * m' ≠ 0 := by
    intro h0
    rw [h0, Nat.zero_mul] at e
    exact Nat.mul_ne_zero ha hb e
  have hs : vp q (m * m') = 0 := by
    apply vp_stop
    intro h0
    rcases pr_dvd_mul hq (Nat.dvd_of_mod_eq_zero h0) with h | h
    · exact h2 (Nat.mod_eq_zero_of_dvd h)
    · exact h4 (Nat.mod_eq_zero_of_dvd h)
  conv => lhs; rw [e]
  rw [vp_mul_pow hq.1 hm, hs]; omega
/-- The exponent in an integer. -/
def vz (q : Nat) (z : Int) : Int := (vp q z.natAbs : Int)
theorem vz_dvd {q : Nat} (hq : 2 ≤ q) {z : Int} (hz : z ≠ 0) (e : Nat) : ((q ^ e : Nat) : Int) ∣ z ↔ (e : Int) ≤ vz q z := by
  rw [← Int.dvd_natAbs, Int.natCast_dvd_natCast, vp_dvd hq (by omega)]
  unfold vz; omega
theorem vz_mul {q : Nat} (hq : Pr q) {x y : Int} (hx : x ≠ 0) (hy : y ≠ 0) : vz q (x * y) = vz q x + vz q y := by
  unfold vz
  rw [Int.natAbs_mul, vp_mul hq (by omega) (by omega)]; omega
theorem vz_nn (q : Nat) (z : Int) : 0 ≤ vz q z := by unfold vz; omega
theorem sum_dvd {d : Int} {T : Nat → Int} {n : Nat} (h : ∀ i, i < n → d ∣ T i) : d ∣ sumTo T n := by
  induction n with
  | zero => exact Int.dvd_zero d
  | succ n ih => exact Int.dvd_add (ih fun i hi => h i (by omega)) (h n (by omega))
theorem lt_of_mul {t x y : Int} (ht : 0 < t) (h : t * x < t * y) : x < y := Int.lt_of_mul_lt_mul_left h (Int.le_of_lt ht)
theorem sum_vz {q : Nat} (hq : 2 ≤ q) {T : Nat → Int} {n : Nat} {t M : Int} (ht : 0 < t) (hne : sumTo T n ≠ 0) (h : ∀ i, i < n → T i ≠ 0 → M ≤ t * vz q (T i)) : M ≤ t * vz q (sumTo T n) := by
  apply Int.le_of_not_gt
  intro hlt
  have hd : ((q ^ ((vz q (sumTo T n)).toNat + 1) : Nat) : Int) ∣ sumTo T n := by
    apply sum_dvd
    intro i hi
    by_cases h0 : T i = 0
    · rw [h0]; exact Int.dvd_zero _
    · have h1 := h i hi h0
      have h2 := lt_of_mul ht (show t * vz q (sumTo T n) < t * vz q (T i) by omega)
      rw [vz_dvd hq h0]
      have := vz_nn q (sumTo T n)
      omega
  rw [vz_dvd hq hne] at hd
  have := vz_nn q (sumTo T n)
  omega
theorem sum_split (T : Nat → Int) (b n : Nat) (h : b < n) : sumTo T n = T b + sumTo (fun i => if i = b then 0 else T i) n := by
  induction n with
  | zero => omega
  | succ n ih =>
    rw [sumTo, sumTo]
    by_cases hb : b = n
    · subst hb
      rw [if_pos rfl, sumTo_congr (F := T) (G := fun i => if i = b then 0 else T i) (fun i hi => by rw [if_neg (by omega)])]
      omega
    · rw [ih (by omega), if_neg (Ne.symm hb)]; omega
theorem sum_exact {q : Nat} (hq : 2 ≤ q) {T : Nat → Int} {n b : Nat} (hb : b < n) (h0 : T b ≠ 0) (h : ∀ i, i < n → i ≠ b → T i ≠ 0 → vz q (T b) < vz q (T i)) : sumTo T n ≠ 0 ∧ vz q (sumTo T n) = vz q (T b) := by
  have hnn := vz_nn q (T b)
  have hR : ((q ^ ((vz q (T b)).toNat + 1) : Nat) : Int) ∣ sumTo (fun i => if i = b then 0 else T i) n := by
    apply sum_dvd
    intro i hi
    by_cases hib : i = b
    · rw [if_pos hib]; exact Int.dvd_zero _
    · rw [if_neg hib]
      by_cases h1 : T i = 0
      · rw [h1]; exact Int.dvd_zero _
      · rw [vz_dvd hq h1]
        have := h i hi hib h1
        omega
  have hs := sum_split T b n hb
  have hnot : ¬ ((q ^ ((vz q (T b)).toNat + 1) : Nat) : Int) ∣ sumTo T n := by
    intro hd
    have h2 := Int.dvd_sub hd hR
    rw [hs, Int.add_sub_cancel, vz_dvd hq h0] at h2
    omega
  have hne : sumTo T n ≠ 0 := by
    intro h0
    rw [h0] at hnot
    exact hnot (Int.dvd_zero _)
  refine ⟨hne, ?_⟩
  have hlow : ((q ^ (vz q (T b)).toNat : Nat) : Int) ∣ sumTo T n := by
    rw [hs]
    refine Int.dvd_add ((vz_dvd hq h0 _).2 (by omega)) (Int.dvd_trans ?_ hR)
    exact Int.natCast_dvd_natCast.2 (Nat.pow_dvd_pow q (by omega))
  rw [vz_dvd hq hne] at hlow hnot
  omega
/-- The weight of a coefficient. -/
def wt (q : Nat) (f : List Int) (s t : Int) (i : Nat) : Int := t * vz q (cf f i) - s * (i : Int)
/-- Where the weight is least: m is the least weight, a the first place and b the last one. -/
structure Edge (q : Nat) (f : List Int) (s t m : Int) (a b : Nat) : Prop where
  ab : a ≤ b
  a0 : cf f a ≠ 0
  b0 : cf f b ≠ 0
  wa : wt q f s t a = m
  wb : wt q f s t b = m
  ge : ∀ i, cf f i ≠ 0 → m ≤ wt q f s t i
  lo : ∀ i, i < a → cf f i ≠ 0 → m < wt q f s t i
  hi : ∀ i, b < i → cf f i ≠ 0 → m < wt q f s t i
theorem Edge.uniq {q : Nat} {f : List Int} {s t m m' : Int} {a b a' b' : Nat} (h : Edge q f s t m a b) (h' : Edge q f s t m' a' b') : m = m' ∧ a = a' ∧ b = b' := by
  have h1 := h.ge a' h'.a0
  have h2 := h'.ge a h.a0
  rw [h'.wa] at h1
  rw [h.wa] at h2
  have hm : m = m' := by omega
  subst hm
  refine ⟨rfl, ?_, ?_⟩
  · rcases Nat.lt_trichotomy a a' with h3 | h3 | h3
    · have := h'.lo a h3 h.a0; have := h.wa; omega
    · exact h3
    · have := h.lo a' h3 h'.a0; have := h'.wa; omega
  · rcases Nat.lt_trichotomy b b' with h3 | h3 | h3
    · have := h.hi b' h3 h'.b0; have := h'.wb; omega
    · exact h3
    · have := h'.hi b h3 h.b0; have := h.wb; omega
theorem cf_mulP (f g : List Int) (k : Nat) : cf (mulP f g) k = mulC f g k := by
  by_cases h : k < (mulP f g).length
  · rw [cf_lt h]; simp [mulP]
  · rw [cf_ge (by omega)]
    rw [mulP_len] at h
    unfold mulC
    rw [sumTo_zero]
    intro i hi
    unfold mulT
    split
    · rw [cf_ge (f := g) (by omega), Int.mul_zero]
    · rfl
theorem mulT_ne {f g : List Int} {k i : Nat} (h : mulT f g k i ≠ 0) : i ≤ k ∧ cf f i ≠ 0 ∧ cf g (k - i) ≠ 0 := by
  unfold mulT at h
  by_cases hi : i ≤ k
  · rw [if_pos hi] at h
    exact ⟨hi, fun h0 => h (by rw [h0, Int.zero_mul]), fun h0 => h (by rw [h0, Int.mul_zero])⟩
  · rw [if_neg hi] at h; exact absurd rfl h
theorem mulT_wt {q : Nat} (hq : Pr q) {f g : List Int} {k i : Nat} {s t : Int} (h : mulT f g k i ≠ 0) : t * vz q (mulT f g k i) - s * (k : Int) = wt q f s t i + wt q g s t (k - i) := by
  obtain ⟨h1, h2, h3⟩ := mulT_ne h
  unfold mulT wt
  rw [if_pos h1, vz_mul hq h2 h3, Int.mul_add, Int.ofNat_sub h1, Int.mul_sub]
  omega
theorem cf_ne_lt {f : List Int} {i : Nat} (h : cf f i ≠ 0) : i < f.length := by
  apply Nat.lt_of_not_le
  intro hle
  exact h (cf_ge hle)
theorem Edge.mul {q : Nat} (hq : Pr q) {f g : List Int} {s t m m' : Int} {a b a' b' : Nat} (ht : 0 < t) (h : Edge q f s t m a b) (h' : Edge q g s t m' a' b') : Edge q (mulP f g) s t (m + m') (a + a') (b + b') := by
  have key : ∀ c c', cf f c ≠ 0 → cf g c' ≠ 0 → wt q f s t c = m → wt q g s t c' = m' → (∀ i, i ≤ c + c' → i ≠ c → cf f i ≠ 0 → cf g (c + c' - i) ≠ 0 → m + m' < wt q f s t i + wt q g s t (c + c' - i)) → cf (mulP f g) (c + c') ≠ 0 ∧ wt q (mulP f g) s t (c + c') = m + m' := by
    intro c c' h1 h2 h3 h4 h5
    have e : mulT f g (c + c') c = cf f c * cf g c' := by
      unfold mulT; rw [if_pos (by omega), Nat.add_sub_cancel_left]
    have hne : mulT f g (c + c') c ≠ 0 := by rw [e]; exact Int.mul_ne_zero h1 h2
    have hw := mulT_wt hq (s := s) (t := t) hne
    rw [Nat.add_sub_cancel_left, h3, h4] at hw
    obtain ⟨r1, r2⟩ := sum_exact hq.1 (T := mulT f g (c + c')) (n := f.length) (b := c) (cf_ne_lt h1) hne (fun i hi hic hti => by
      obtain ⟨u1, u2, u3⟩ := mulT_ne hti
      have u4 := h5 i u1 hic u2 u3
      rw [← mulT_wt hq (s := s) (t := t) hti] at u4
      exact lt_of_mul ht (by omega))
    unfold wt
    rw [cf_mulP]
    unfold mulC
    refine ⟨r1, ?_⟩
    rw [r2]; exact hw
  have kge : ∀ k M, cf (mulP f g) k ≠ 0 → (∀ i, i ≤ k → cf f i ≠ 0 → cf g (k - i) ≠ 0 → M ≤ wt q f s t i + wt q g s t (k - i)) → M ≤ wt q (mulP f g) s t k := by
    intro k M h1 h2
    unfold wt
    rw [cf_mulP] at h1 ⊢
    unfold mulC at h1 ⊢
    have := sum_vz hq.1 (T := mulT f g k) (n := f.length) (t := t) (M := M + s * (k : Int)) ht h1 (fun i hi hti => by
      obtain ⟨u1, u2, u3⟩ := mulT_ne hti
      have u4 := h2 i u1 u2 u3
      rw [← mulT_wt hq (s := s) (t := t) hti] at u4
      omega)
    omega
  obtain ⟨x1, x2⟩ := key a a' h.a0 h'.a0 h.wa h'.wa (fun i hi hne u1 u2 => by
    have v1 := h.ge i u1
    have v2 := h'.ge _ u2
    rcases Nat.lt_or_gt_of_ne hne with h3 | h3
    · have := h.lo i h3 u1; omega
    · have := h'.lo (a + a' - i) (by omega) u2; omega)
  obtain ⟨y1, y2⟩ := key b b' h.b0 h'.b0 h.wb h'.wb (fun i hi hne u1 u2 => by
    have v1 := h.ge i u1
    have v2 := h'.ge _ u2
    rcases Nat.lt_or_gt_of_ne hne with h3 | h3
    · have := h'.hi (b + b' - i) (by omega) u2; omega
    · have := h.hi i h3 u1; omega)
  refine ⟨Nat.add_le_add h.ab h'.ab, x1, y1, x2, y2, fun k hk => ?_, fun k hlt hk => ?_, fun k hlt hk => ?_⟩
  · exact kge k _ hk (fun i hi u1 u2 => by have := h.ge i u1; have := h'.ge _ u2; omega)
  · have := kge k (m + m' + 1) hk (fun i hi u1 u2 => by
      have v1 := h.ge i u1
      have v2 := h'.ge _ u2
      by_cases h3 : i < a
      · have := h.lo i h3 u1; omega
      · have := h'.lo (k - i) (by omega) u2; omega)
    omega
  · have := kge k (m + m' + 1) hk (fun i hi u1 u2 => by
      have v1 := h.ge i u1
      have v2 := h'.ge _ u2
      by_cases h3 : b < i
      · have := h.hi i h3 u1; omega
      · have := h'.hi (k - i) (by omega) u2; omega)
    omega
end Gx
end
section
/- The sides of a polygon are where the weights are least. -/
set_option autoImplicit false
namespace Gx
theorem mem_pts {q : Nat} {f : List Int} {j : Nat} (h : cf f j ≠ 0) : (⟨(j : Int), vz q (cf f j)⟩ : Vtx) ∈ pts q f := by
  have key : ∀ (f : List Int) (i j : Nat), cf f j ≠ 0 → (⟨((i + j : Nat) : Int), vz q (cf f j)⟩ : Vtx) ∈ ptsFrom q i f := by
    intro f
    induction f with
    | nil => intro i j h; simp [cf] at h
    | cons z r ih =>
      intro i j h
      cases j with
      | zero =>
        have hz : cf (z :: r) 0 = z := rfl
        rw [hz] at h ⊢
        unfold ptsFrom
        rw [if_neg h, Nat.add_zero]
        exact List.mem_cons_self
      | succ j =>
        have hz : cf (z :: r) (j + 1) = cf r j := by simp [cf]
        rw [hz] at h ⊢
        have := ih (i + 1) j h
        rw [show i + 1 + j = i + (j + 1) by omega] at this
        unfold ptsFrom
        split
        · exact this
        · exact List.mem_cons_of_mem _ this
  have := key f 0 j h
  rw [Nat.zero_add] at this
  exact this
theorem pts_mem {q : Nat} {f : List Int} {v : Vtx} (h : v ∈ pts q f) : ∃ j : Nat, cf f j ≠ 0 ∧ v = ⟨(j : Int), vz q (cf f j)⟩ := by
  obtain ⟨j, hj, h1, h2, h3⟩ := pts_idx h
  have e : cf f j = f[j] := cf_lt hj
  refine ⟨j, by rw [e]; exact h2, ?_⟩
  cases v with
  | mk x y =>
    simp only [] at h1 h3
    rw [h1, h3, e, Nat.zero_add]; rfl
/-- The weight of a point. -/
def W (s t : Int) (v : Vtx) : Int := t * v.y - s * v.x
theorem W_wt (q : Nat) (f : List Int) (s t : Int) (j : Nat) : W s t ⟨(j : Int), vz q (cf f j)⟩ = wt q f s t j := rfl
theorem cr_W (u v k : Vtx) : cr u v k = W (v.y - u.y) (v.x - u.x) k - W (v.y - u.y) (v.x - u.x) u := by unfold cr dd W; grind
theorem cr_W2 (u v k : Vtx) : cr k u v = W (v.y - u.y) (v.x - u.x) k - W (v.y - u.y) (v.x - u.x) u := by unfold cr dd W; grind
theorem W_same (u v : Vtx) : W (v.y - u.y) (v.x - u.x) v = W (v.y - u.y) (v.x - u.x) u := by unfold W; grind
theorem t_cr (s t : Int) (c a d : Vtx) : t * cr c a d = (a.x - c.x) * (W s t d - W s t a) + (W s t c - W s t a) * (d.x - a.x) := by unfold cr dd W; grind
theorem side_edge {q : Nat} {f : List Int} {i : Nat} (h : i + 1 < (hull (pts q f)).length) : ∃ (a b : Nat) (m : Int), (hull (pts q f))[i].x = (a : Int) ∧ (hull (pts q f))[i + 1].x = (b : Int) ∧ a < b ∧
    Edge q f ((hull (pts q f))[i + 1].y - (hull (pts q f))[i].y) ((hull (pts q f))[i + 1].x - (hull (pts q f))[i].x) m a b := by
  have hinc : (pts q f).Pairwise (fun a b => a.x < b.x) := (pts_from q 0 f).1
  have hH := hull_HI _ hinc
  have hlt := hull_inc hinc i h
  have hi : i < (hull (pts q f)).length := by omega
  have hu := (hull_mem_iff hinc _).1 (List.getElem_mem hi)
  have hv := (hull_mem_iff hinc _).1 (List.getElem_mem h)
  have hab := hH.above i h
  simp only [List.getD, List.getElem?_eq_getElem hi, List.getElem?_eq_getElem h, Option.getD_some] at hab
  generalize (hull (pts q f))[i] = u at *
  generalize (hull (pts q f))[i + 1] = v at *
  obtain ⟨a, ha, rfl⟩ := pts_mem hu.1
  obtain ⟨b, hb, rfl⟩ := pts_mem hv.1
  simp only [] at hlt
  have hge : ∀ j, cf f j ≠ 0 → 0 ≤ cr ⟨(a : Int), vz q (cf f a)⟩ ⟨(b : Int), vz q (cf f b)⟩ ⟨(j : Int), vz q (cf f j)⟩ := fun j hj => hab _ (mem_pts hj)
  refine ⟨a, b, _, rfl, rfl, by omega, ⟨by omega, ha, hb, rfl, ?_, fun j hj => ?_, fun j hja hj => ?_, fun j hjb hj => ?_⟩⟩
  · have := W_same ⟨(a : Int), vz q (cf f a)⟩ ⟨(b : Int), vz q (cf f b)⟩
    exact this
  · have h1 := hge j hj
    rw [cr_W] at h1
    simp only [W_wt] at h1
    dsimp only
    omega
  · have h1 := hu.2 _ (mem_pts hj) _ hv.1 (by show (j : Int) < (a : Int); omega) hlt
    rw [cr_W2] at h1
    simp only [W_wt] at h1
    dsimp only
    omega
  · have h1 := hv.2 _ hu.1 _ (mem_pts hj) hlt (by show (b : Int) < (j : Int); omega)
    rw [cr_W] at h1
    simp only [W_wt] at h1
    dsimp only
    omega
theorem edge_low {q : Nat} {f : List Int} {s t m : Int} {a : Nat} (ht : 0 < t) (ha : cf f a ≠ 0) (hm : wt q f s t a = m) (h : ∀ i j, cf f i ≠ 0 → cf f j ≠ 0 → i < a → a < j → m ≤ wt q f s t i ∧ m ≤ wt q f s t j ∧ (m < wt q f s t i ∨ m < wt q f s t j)) :
    (⟨(a : Int), vz q (cf f a)⟩ : Vtx) ∈ hull (pts q f) := by
  rw [hull_mem_iff (l := pts q f) (pts_from q 0 f).1]
  refine ⟨mem_pts ha, fun c hc d hd h1 h2 => ?_⟩
  obtain ⟨i, hi, rfl⟩ := pts_mem hc
  obtain ⟨j, hj, rfl⟩ := pts_mem hd
  simp only [] at h1 h2
  obtain ⟨k1, k2, k3⟩ := h i j hi hj (by omega) (by omega)
  apply pos_of_mul ht
  rw [t_cr s t]
  simp only [W_wt, hm]
  have x1 : (0 : Int) < (a : Int) - i := by omega
  have x2 : (0 : Int) < (j : Int) - a := by omega
  rcases k3 with k3 | k3
  · have y1 := Int.mul_nonneg (Int.le_of_lt x1) (show 0 ≤ wt q f s t j - m by omega)
    have y2 := Int.mul_pos (show 0 < wt q f s t i - m by omega) x2
    omega
  · have y1 := Int.mul_pos x1 (show 0 < wt q f s t j - m by omega)
    have y2 := Int.mul_nonneg (show 0 ≤ wt q f s t i - m by omega) (Int.le_of_lt x2)
    omega
theorem edge_side {q : Nat} {f : List Int} {s t m : Int} {a b : Nat} (ht : 0 < t) (hab : a < b) (h : Edge q f s t m a b) : ∃ i, ∃ hi : i + 1 < (hull (pts q f)).length, (hull (pts q f))[i] = ⟨(a : Int), vz q (cf f a)⟩ ∧ (hull (pts q f))[i + 1] = ⟨(b : Int), vz q (cf f b)⟩ := by
  have hinc : (pts q f).Pairwise (fun a b => a.x < b.x) := (pts_from q 0 f).1
  have hhi := hinc.sublist (hull_sub (pts q f))
  have hA := edge_low ht h.a0 h.wa (fun i j hi hj h1 h2 => ⟨h.ge i hi, h.ge j hj, .inl (h.lo i h1 hi)⟩)
  have hB := edge_low ht h.b0 h.wb (fun i j hi hj h1 h2 => ⟨h.ge i hi, h.ge j hj, .inr (h.hi j h2 hj)⟩)
  have hAl := ((hull_mem_iff hinc _).1 hA).1
  have hBl := ((hull_mem_iff hinc _).1 hB).1
  obtain ⟨i, hi, ei⟩ := List.getElem_of_mem hA
  obtain ⟨j, hj, ej⟩ := List.getElem_of_mem hB
  have hij : i < j := by
    rcases Nat.lt_trichotomy i j with h1 | h1 | h1
    · exact h1
    · subst h1
      rw [ei] at ej
      injection ej with e1 e2
      omega
    · have := List.pairwise_iff_getElem.1 hhi j i hj hi h1
      rw [ei, ej] at this
      simp only [] at this
      omega
  have hj1 : j = i + 1 := by
    apply Classical.byContradiction
    intro hne
    have hi1 : i + 1 < (hull (pts q f)).length := by omega
    have x1 := List.pairwise_iff_getElem.1 hhi i (i + 1) hi hi1 (by omega)
    have x2 := List.pairwise_iff_getElem.1 hhi (i + 1) j hi1 hj (by omega)
    have hv := (hull_mem_iff hinc _).1 (List.getElem_mem hi1)
    rw [ei] at x1
    rw [ej] at x2
    generalize (hull (pts q f))[i + 1] = v at *
    obtain ⟨c, hc, rfl⟩ := pts_mem hv.1
    have h1 := hv.2 _ hAl _ hBl x1 x2
    have h2 := Int.mul_pos ht h1
    rw [t_cr s t] at h2
    simp only [W_wt, h.wa, h.wb] at h2 x1 x2
    have h3 := h.ge c hc
    have y1 := Int.mul_nonneg (show (0 : Int) ≤ (c : Int) - a by omega) (show 0 ≤ wt q f s t c - m by omega)
    have y2 := Int.mul_nonneg (show 0 ≤ wt q f s t c - m by omega) (show (0 : Int) ≤ (b : Int) - c by omega)
    have z1 : ((c : Int) - a) * (m - wt q f s t c) = -(((c : Int) - a) * (wt q f s t c - m)) := by rw [← Int.mul_neg]; congr 1; omega
    have z2 : (m - wt q f s t c) * ((b : Int) - c) = -((wt q f s t c - m) * ((b : Int) - c)) := by rw [← Int.neg_mul]; congr 1; omega
    omega
  subst hj1
  exact ⟨i, hj, ei, ej⟩
/-- The sides of a polygon. -/
theorem side_iff {q : Nat} {f : List Int} (x : Sd) : x ∈ sidesOf (hull (pts q f)) ↔ ∃ (s t m : Int) (a b : Nat), 0 < t ∧ a < b ∧ Edge q f s t m a b ∧ x = ⟨Rat.divInt s t, (b : Int) - a⟩ := by
  constructor
  · intro hx
    obtain ⟨i, hi, rfl⟩ := List.getElem_of_mem hx
    have hl : (sidesOf (hull (pts q f))).length = (hull (pts q f)).length - 1 := by unfold sidesOf; rw [sidesTo_len]
    have hi1 : i + 1 < (hull (pts q f)).length := by omega
    obtain ⟨a, b, m, e1, e2, h1, h2⟩ := side_edge hi1
    refine ⟨_, _, m, a, b, by omega, h1, h2, ?_⟩
    rw [sides_get _ i hi1]
    unfold sideOf
    rw [e1, e2]
  · rintro ⟨s, t, m, a, b, ht, hab, h, rfl⟩
    obtain ⟨i, hi, e1, e2⟩ := edge_side ht hab h
    have hl : (sidesOf (hull (pts q f))).length = (hull (pts q f)).length - 1 := by unfold sidesOf; rw [sidesTo_len]
    have hs := sides_get (hull (pts q f)) i hi (by omega)
    rw [e1, e2] at hs
    have : (⟨Rat.divInt s t, (b : Int) - a⟩ : Sd) = (sidesOf (hull (pts q f)))[i]'(by omega) := by
      rw [hs]
      unfold sideOf
      simp only []
      congr 1
      rw [Rat.divInt_eq_divInt_iff (by omega) (by omega)]
      have w1 := h.wa
      have w2 := h.wb
      unfold wt at w1 w2
      rw [Int.mul_sub, Int.sub_mul, Int.mul_comm (vz q (cf f b)), Int.mul_comm (vz q (cf f a))]
      omega
    rw [this]
    exact List.getElem_mem _
end Gx
end
section
/- The polygon of a product of linear polynomials. -/
set_option autoImplicit false
namespace Gx
theorem divInt_z (z : Int) : Rat.divInt z 1 = (z : Rat) := by
  apply Rat.ext
  · simp [Rat.num_divInt]
  · simp [Rat.den_divInt]
def linP (r : Int) : List Int := [0 - r, 1]
def prodR (rs : List Int) : List Int := rs.foldl (fun f r => mulP f (linP r)) [1]
theorem prodR_app (rs : List Int) (r : Int) : prodR (rs ++ [r]) = mulP (prodR rs) (linP r) := by
  unfold prodR; rw [List.foldl_append]; rfl
theorem prodR_len (rs : List Int) : (prodR rs).length = rs.length + 1 := by
  have : ∀ (rs f : List Int), 0 < f.length → (rs.foldl (fun f r => mulP f (linP r)) f).length = rs.length + f.length := by
    intro rs
    induction rs with
    | nil => intro f _; simp
    | cons r rs ih =>
      intro f hf
      rw [List.foldl_cons, ih _ (by rw [mulP_len]; simp [linP]), mulP_len]
      simp [linP]; omega
  have := this rs [1] (by decide)
  simpa [prodR] using this
theorem prodR_last (rs : List Int) : cf (prodR rs) rs.length = 1 := by
  have : ∀ n, n ≤ rs.length → cf (prodR (rs.take n)) n = 1 := by
    intro n
    induction n with
    | zero => intro _; rfl
    | succ n ih =>
      intro hn
      have h1 := ih (by omega)
      have hl := prodR_len (rs.take n)
      rw [List.length_take, Nat.min_eq_left (by omega)] at hl
      rw [List.take_add_one, List.getElem?_eq_getElem (by omega), Option.toList_some, prodR_app, cf_mulP]
      have h2 := mulC_top (prodR (rs.take n)) (linP rs[n]) (by omega) (by simp [linP])
      rw [hl] at h2
      have e : n + 1 + (linP rs[n]).length - 2 = n + 1 := by simp [linP]
      rw [e] at h2
      rw [h2]
      have e2 : n + 1 - 1 = n := by omega
      rw [e2, h1]; rfl
  have := this rs.length (Nat.le_refl _)
  rwa [List.take_length] at this
def cntS (q : Nat) (rs : List Int) (s t : Int) : Nat := rs.countP fun r => decide (s = -(vz q r * t))
theorem vz_one {q : Nat} (hq : 2 ≤ q) : vz q 1 = 0 := by
  unfold vz
  have : (1 : Int).natAbs = 1 := rfl
  rw [this, vp_stop (by rw [Nat.mod_eq_of_lt (by omega)]; decide)]; rfl
theorem vz_neg (q : Nat) (z : Int) : vz q (0 - z) = vz q z := by unfold vz; rw [Int.zero_sub, Int.natAbs_neg]
theorem edge_one {q : Nat} (hq : 2 ≤ q) (s t : Int) : Edge q [1] s t 0 0 0 := by
  have h0 : cf [1] 0 = 1 := rfl
  have hw : wt q [1] s t 0 = 0 := by unfold wt; rw [h0, vz_one hq]; simp
  have hz : ∀ i, cf [1] i ≠ 0 → i = 0 := fun i h => by have := cf_ne_lt h; simp at this; exact this
  refine ⟨Nat.le_refl _, by rw [h0]; decide, by rw [h0]; decide, hw, hw, fun i h => ?_, fun i h => by omega, fun i hi h => ?_⟩
  · rw [hz i h, hw]; exact Int.le_refl _
  · have := hz i h; omega
theorem edge_lin {q : Nat} (hq : 2 ≤ q) {r s t : Int} (hr : r ≠ 0) : ∃ (m : Int) (a : Nat), Edge q (linP r) s t m a (a + if s = -(vz q r * t) then 1 else 0) := by
  have h0 : cf (linP r) 0 = 0 - r := rfl
  have h1 : cf (linP r) 1 = 1 := rfl
  have hz : ∀ i, cf (linP r) i ≠ 0 → i = 0 ∨ i = 1 := fun i h => by
    have := cf_ne_lt h
    simp [linP] at this
    omega
  have w0 : wt q (linP r) s t 0 = vz q r * t := by unfold wt; rw [h0, vz_neg, Int.mul_comm]; simp
  have w1 : wt q (linP r) s t 1 = -s := by unfold wt; rw [h1, vz_one hq]; simp
  have n0 : cf (linP r) 0 ≠ 0 := by rw [h0]; omega
  have n1 : cf (linP r) 1 ≠ 0 := by rw [h1]; decide
  generalize vz q r * t = x at *
  by_cases he : s = -x
  · rw [if_pos he]
    refine ⟨x, 0, by omega, n0, n1, w0, by rw [w1]; omega, fun i h => ?_, fun i h => by omega, fun i hi h => ?_⟩
    · rcases hz i h with rfl | rfl
      · omega
      · omega
    · rcases hz i h with rfl | rfl <;> omega
  · rw [if_neg he, ]
    by_cases hlt : x < -s
    · refine ⟨x, 0, by omega, n0, n0, w0, w0, fun i h => ?_, fun i h => by omega, fun i hi h => ?_⟩
      · rcases hz i h with rfl | rfl <;> omega
      · rcases hz i h with rfl | rfl <;> omega
    · refine ⟨-s, 1, by omega, n1, n1, w1, w1, fun i h => ?_, fun i hi h => ?_, fun i hi h => ?_⟩
      · rcases hz i h with rfl | rfl <;> omega
      · rcases hz i h with rfl | rfl <;> omega
      · rcases hz i h with rfl | rfl <;> omega
theorem edge_roots {q : Nat} (hq : Pr q) {s t : Int} (ht : 0 < t) (rs : List Int) (hr : ∀ r ∈ rs, r ≠ 0) : ∃ (m : Int) (a : Nat), Edge q (prodR rs) s t m a (a + cntS q rs s t) := by
  have : ∀ n, n ≤ rs.length → ∃ (m : Int) (a : Nat), Edge q (prodR (rs.take n)) s t m a (a + cntS q (rs.take n) s t) := by
    intro n
    induction n with
    | zero => intro _; exact ⟨0, 0, edge_one hq.1 s t⟩
    | succ n ih =>
      intro hn
      obtain ⟨m, a, h⟩ := ih (by omega)
      obtain ⟨m', a', h'⟩ := edge_lin (s := s) (t := t) hq.1 (hr rs[n] (List.getElem_mem _))
      have h2 := h.mul hq ht h'
      rw [List.take_add_one, List.getElem?_eq_getElem (by omega), Option.toList_some, prodR_app]
      have e : cntS q (rs.take n ++ [rs[n]]) s t = cntS q (rs.take n) s t + if s = -(vz q rs[n] * t) then 1 else 0 := by
        unfold cntS
        rw [List.countP_append]
        congr 1
        by_cases h : s = -(vz q rs[n] * t) <;> simp [h]
      rw [e]
      refine ⟨m + m', a + a', ?_⟩
      rw [show a + a' + (cntS q (rs.take n) s t + if s = -(vz q rs[n] * t) then 1 else 0) = a + cntS q (rs.take n) s t + (a' + if s = -(vz q rs[n] * t) then 1 else 0) by omega]
      exact h2
  have := this rs.length (Nat.le_refl _)
  rwa [List.take_length] at this
theorem sd_ext {a b : List Sd} (ha : a.Pairwise (fun u v => u.s < v.s)) (hb : b.Pairwise (fun u v => u.s < v.s)) (h : ∀ v, v ∈ a ↔ v ∈ b) : a = b := by
  have irr : ∀ x : Rat, ¬ x < x := fun x => Rat.lt_irrefl
  induction a generalizing b with
  | nil =>
    cases b with
    | nil => rfl
    | cons y s => exact absurd ((h y).2 (by simp)) (by simp)
  | cons x r ih =>
    cases b with
    | nil => exact absurd ((h x).1 (by simp)) (by simp)
    | cons y s =>
      rw [List.pairwise_cons] at ha hb
      have hxy : x = y := by
        have h1 := (h x).1 (by simp)
        have h2 := (h y).2 (by simp)
        rcases List.mem_cons.1 h1 with h1 | h1
        · exact h1
        · rcases List.mem_cons.1 h2 with h2 | h2
          · exact h2.symm
          · exact absurd (Std.lt_trans (hb.1 _ h1) (ha.1 _ h2)) (irr _)
      subst hxy
      congr 1
      refine ih ha.2 hb.2 fun v => ⟨fun hv => ?_, fun hv => ?_⟩
      · rcases List.mem_cons.1 ((h v).1 (List.mem_cons_of_mem _ hv)) with h1 | h1
        · subst h1; exact absurd (ha.1 _ hv) (irr _)
        · exact h1
      · rcases List.mem_cons.1 ((h v).2 (List.mem_cons_of_mem _ hv)) with h1 | h1
        · subst h1; exact absurd (hb.1 _ hv) (irr _)
        · exact h1
theorem sides_asc (q : Nat) (f : List Int) : (sidesOf (hull (pts q f))).Pairwise (fun u v => u.s < v.s) := by
  have hinc : (pts q f).Pairwise (fun a b => a.x < b.x) := (pts_from q 0 f).1
  have hH := hull_HI _ hinc
  have hl : (sidesOf (hull (pts q f))).length = (hull (pts q f)).length - 1 := by unfold sidesOf; rw [sidesTo_len]
  have step : ∀ i (h : i + 1 < (sidesOf (hull (pts q f))).length), (sidesOf (hull (pts q f)))[i].s < (sidesOf (hull (pts q f)))[i + 1].s := by
    intro i h
    have h2 : i + 2 < (hull (pts q f)).length := by omega
    rw [sides_get _ i (by omega), sides_get _ (i + 1) (by omega)]
    have hc := hH.chain i h2
    simp only [List.getD, List.getElem?_eq_getElem (show i < (hull (pts q f)).length by omega), List.getElem?_eq_getElem (show i + 1 < (hull (pts q f)).length by omega), List.getElem?_eq_getElem h2, Option.getD_some] at hc
    exact side_lt (hull_inc hinc i (by omega)) (hull_inc hinc (i + 1) (by omega)) hc
  rw [List.pairwise_iff_getElem]
  intro i j hi hj hij
  obtain ⟨d, rfl⟩ : ∃ d, j = i + 1 + d := ⟨j - (i + 1), by omega⟩
  induction d with
  | zero => exact step i (by omega)
  | succ d ih => exact Std.lt_trans (ih (by omega) (by omega)) (step (i + 1 + d) (by omega))
/-- The sides that are expected, from the steepest one on. -/
def wantTo (c : Nat → Nat) : Nat → List Sd
  | 0 => []
  | k + 1 => wantTo c k ++ if c (19 - k) = 0 then [] else [⟨((-((19 - k : Nat) : Int) : Int) : Rat), (c (19 - k) : Int)⟩]
theorem wantTo_mem (c : Nat → Nat) (k : Nat) (hk : k ≤ 20) (x : Sd) : x ∈ wantTo c k ↔ ∃ v, 20 - k ≤ v ∧ v < 20 ∧ c v ≠ 0 ∧ x = ⟨((-(v : Int) : Int) : Rat), (c v : Int)⟩ := by
  induction k with
  | zero =>
    constructor
    · intro h; simp [wantTo] at h
    · rintro ⟨v, h1, h2, _⟩; omega
  | succ k ih =>
    rw [wantTo, List.mem_append, ih (by omega)]
    constructor
    · rintro (⟨v, h1, h2, h3, h4⟩ | h)
      · exact ⟨v, by omega, h2, h3, h4⟩
      · by_cases h0 : c (19 - k) = 0
        · rw [if_pos h0] at h; simp at h
        · rw [if_neg h0] at h
          exact ⟨19 - k, by omega, by omega, h0, by simpa using h⟩
    · rintro ⟨v, h1, h2, h3, h4⟩
      by_cases hv : v = 19 - k
      · right
        subst hv
        rw [if_neg h3, h4]; simp
      · left; exact ⟨v, by omega, h2, h3, h4⟩
theorem wantTo_asc (c : Nat → Nat) (k : Nat) (hk : k ≤ 20) : (wantTo c k).Pairwise (fun u v => u.s < v.s) := by
  induction k with
  | zero => exact List.Pairwise.nil
  | succ k ih =>
    rw [wantTo, List.pairwise_append]
    refine ⟨ih (by omega), ?_, fun x hx y hy => ?_⟩
    · split
      · exact List.Pairwise.nil
      · exact List.pairwise_singleton _ _
    · by_cases h0 : c (19 - k) = 0
      · rw [if_pos h0] at hy; simp at hy
      · rw [if_neg h0] at hy
        simp only [List.mem_singleton] at hy
        obtain ⟨v, h1, h2, h3, rfl⟩ := (wantTo_mem c k (by omega) x).1 hx
        subst hy
        show ((-(v : Int) : Int) : Rat) < ((-((19 - k : Nat) : Int) : Int) : Rat)
        rw [Rat.intCast_lt_intCast]; omega
theorem roots_sides {q : Nat} (hq : Pr q) (rs : List Int) (hr : ∀ r ∈ rs, r ≠ 0 ∧ vz q r < 20) (c : Nat → Nat) (hc : ∀ v, c v = rs.countP fun r => decide (vz q r = (v : Int))) : sidesOf (hull (pts q (prodR rs))) = wantTo c 20 := by
  refine sd_ext (sides_asc q _) (wantTo_asc c 20 (Nat.le_refl _)) fun x => ?_
  rw [side_iff, wantTo_mem c 20 (Nat.le_refl _)]
  have hcnt : ∀ (v : Nat) (t : Int), 0 < t → cntS q rs (-((v : Int) * t)) t = c v := by
    intro v t ht
    rw [hc]
    unfold cntS
    congr 1
    funext r
    apply decide_eq_decide.2
    constructor
    · intro h
      have h2 : vz q r * t = (v : Int) * t := by omega
      exact Int.eq_of_mul_eq_mul_right (by omega) h2
    · intro h; rw [h]
  constructor
  · rintro ⟨s, t, m, a, b, ht, hab, he, rfl⟩
    obtain ⟨m', a', he'⟩ := edge_roots (s := s) (t := t) hq ht rs (fun r h => (hr r h).1)
    obtain ⟨_, h2, h3⟩ := he.uniq he'
    have hpos : 0 < cntS q rs s t := by omega
    unfold cntS at hpos
    obtain ⟨r, hrm, hrd⟩ := List.countP_pos_iff.1 hpos
    have hs : s = -(vz q r * t) := of_decide_eq_true hrd
    have hv0 := vz_nn q r
    have hv20 := (hr r hrm).2
    have ev : ((vz q r).toNat : Int) = vz q r := by omega
    have e := hcnt (vz q r).toNat t ht
    rw [ev, ← hs] at e
    refine ⟨(vz q r).toNat, by omega, by omega, by omega, ?_⟩
    have e1 : Rat.divInt s t = ((-((vz q r).toNat : Int) : Int) : Rat) := by
      rw [ev, hs]
      have : ((-(vz q r) : Int) : Rat) = Rat.divInt (-(vz q r)) 1 := (divInt_z _).symm
      rw [this, Rat.divInt_eq_divInt_iff (by omega) (by decide)]
      rw [Int.mul_one, Int.neg_mul]
    rw [e1]
    congr 1
    omega
  · rintro ⟨v, _, h1, h2, rfl⟩
    obtain ⟨m, a, he⟩ := edge_roots (s := -((v : Int) * 1)) (t := 1) hq (by decide) rs (fun r h => (hr r h).1)
    rw [hcnt v 1 (by decide)] at he
    refine ⟨_, 1, m, a, a + c v, by decide, by omega, he, ?_⟩
    have e1 : Rat.divInt (-((v : Int) * 1)) 1 = ((-(v : Int) : Int) : Rat) := by
      rw [Int.mul_one]; exact divInt_z _
    rw [e1]
    congr 1
    omega
end Gx
end
