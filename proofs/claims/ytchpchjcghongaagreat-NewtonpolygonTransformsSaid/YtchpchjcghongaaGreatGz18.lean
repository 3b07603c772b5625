/- Lemmas: plain facts, or contracts of functions that are reached, in the interpreter without world and addresses. -/
import Derived.Test.YtchpchjcghongaaGreatGz17
set_option linter.all false
set_option linter.unusedVariables false
set_option linter.unusedSimpArgs false
set_option linter.unnecessarySimpa false
set_option linter.deprecated false
section
/- The lower hull by its definition. -/
set_option autoImplicit false
namespace Gx
theorem inc_ext {a b : List Vtx} (ha : a.Pairwise (fun u v => u.x < v.x)) (hb : b.Pairwise (fun u v => u.x < v.x)) (h : ∀ v, v ∈ a ↔ v ∈ b) : a = b := by
  induction a generalizing b with
  | nil =>
    cases b with
    | nil => rfl
    | cons y s => exact absurd ((h y).2 (by simp)) (by simp)
  | cons x r ih =>
    cases b with
    | nil => exact absurd ((h x).1 (by simp)) (by simp)
    | cons y s =>
      rw [List.pairwise_cons] at ha hb
      have hxy : x = y := by
        have h1 := (h x).1 (by simp)
        have h2 := (h y).2 (by simp)
        rcases List.mem_cons.1 h1 with h1 | h1
        · exact h1
        · rcases List.mem_cons.1 h2 with h2 | h2
          · exact h2.symm
          · have := hb.1 _ h1; have := ha.1 _ h2; omega
      subst hxy
      congr 1
      refine ih ha.2 hb.2 fun v => ⟨fun hv => ?_, fun hv => ?_⟩
      · rcases List.mem_cons.1 ((h v).1 (List.mem_cons_of_mem _ hv)) with h1 | h1
        · subst h1; have := ha.1 _ hv; omega
        · exact h1
      · rcases List.mem_cons.1 ((h v).2 (List.mem_cons_of_mem _ hv)) with h1 | h1
        · subst h1; have := hb.1 _ hv; omega
        · exact h1
/-- A point below all lines between a point on its left and one on its right. -/
def Low (l : List Vtx) (v : Vtx) : Prop := ∀ a ∈ l, ∀ c ∈ l, a.x < v.x → v.x < c.x → 0 < cr a v c
theorem between (n : Nat) (f : Nat → Int) (y : Int) (h0 : f 0 < y) (hn : y < f n) (hne : ∀ i, i ≤ n → f i ≠ y) : ∃ i, i < n ∧ f i < y ∧ y < f (i + 1) := by
  induction n with
  | zero => omega
  | succ n ih =>
    by_cases h : y < f n
    · obtain ⟨i, h1, h2⟩ := ih h (fun i hi => hne i (by omega))
      exact ⟨i, by omega, h2⟩
    · have := hne n (by omega)
      exact ⟨n, by omega, by omega, hn⟩
theorem HI.mem {l out : List Vtx} (h : HI l out) (hl : l.Pairwise (fun a b => a.x < b.x)) (v : Vtx) : v ∈ out ↔ v ∈ l ∧ Low l v := by
  have hol := hl.sublist h.sub
  have hmem : ∀ i, i < out.length → out.getD i v0 ∈ l := fun i hi => h.sub.subset (getD_mem hi)
  constructor
  · intro hv
    refine ⟨h.sub.subset hv, fun a ha c hc h1 h2 => ?_⟩
    obtain ⟨i, hi, rfl⟩ := List.getElem_of_mem hv
    have e : ∀ j (hj : j < out.length), out[j] = out.getD j v0 := fun j hj => by simp [List.getD, hj]
    rw [e i hi] at h1 h2 ⊢
    have hi0 : i ≠ 0 := by
      rintro rfl
      have := (h.first a ha).2; omega
    obtain ⟨j, rfl⟩ : ∃ j, i = j + 1 := ⟨i - 1, by omega⟩
    have hin : j + 2 < out.length := by
      apply Nat.lt_of_not_le
      intro hle
      have := h.last c hc
      rw [show out.length - 1 = j + 1 by omega] at this
      omega
    have k1 := h.above j (by omega) a ha
    have k2 := h.above (j + 1) (by omega) c hc
    have k3 := h.chain j hin
    have x1 := inc_getD hol (show j < j + 1 by omega) (by omega)
    have x2 := inc_getD hol (show j + 1 < j + 2 by omega) hin
    generalize out.getD j v0 = u at *
    generalize out.getD (j + 1) v0 = v at *
    rw [show j + 1 + 1 = j + 2 from rfl] at k2
    generalize out.getD (j + 2) v0 = w at *
    have k4 : 0 ≤ dd a v u v := by
      unfold cr at k1
      rw [dd_anti, dd_neg]; omega
    rw [cr_eq] at k2
    unfold cr at k3
    exact dd_lt_le h1 x2 h2 (dd_le_lt h1 x1 x2 k4 k3) k2
  · rintro ⟨hv, hlow⟩
    apply Classical.byContradiction
    intro hno
    have hne : ∀ i, i < out.length → (out.getD i v0).x ≠ v.x := by
      intro i hi he
      have := inc_eq hl (hmem i hi) hv he
      rw [← this] at hno
      exact hno (getD_mem hi)
    obtain ⟨f1, f2⟩ := h.first v hv
    have f3 := h.last v hv
    have := hne 0 f1
    have := hne (out.length - 1) (by omega)
    obtain ⟨i, h1, h2, h3⟩ := between (out.length - 1) (fun i => (out.getD i v0).x) v.x (by show (out.getD 0 v0).x < v.x; omega) (by show v.x < (out.getD (out.length - 1) v0).x; omega) (fun i hi => hne i (by omega))
    have k1 := h.above i (by omega) v hv
    have k2 := hlow _ (hmem i (by omega)) _ (hmem (i + 1) (by omega)) h2 h3
    rw [cr_eq] at k1 k2
    rw [dd_anti] at k2
    omega
/-- The hull is what stays below. -/
theorem hull_mem_iff {l : List Vtx} (hl : l.Pairwise (fun a b => a.x < b.x)) (v : Vtx) : v ∈ hull l ↔ v ∈ l ∧ Low l v := (hull_HI l hl).mem hl v
/-- Is the point k a vertex? -/
def vtxAt (l : List Vtx) (k : Nat) : Bool := (List.range k).all fun i => (List.range (l.length - (k + 1))).all fun j => !overB (l.getD i v0) (l.getD k v0) (l.getD (k + 1 + j) v0)
def lowTo (l : List Vtx) (k : Nat) : List Vtx := ((List.range k).filter fun i => vtxAt l i).map fun i => l.getD i v0
theorem lowTo_succ (l : List Vtx) (k : Nat) : lowTo l (k + 1) = if vtxAt l k = true then lowTo l k ++ [l.getD k v0] else lowTo l k := by
  unfold lowTo
  rw [List.range_succ, List.filter_append, List.map_append]
  by_cases h : vtxAt l k = true
  · simp [h]
  · simp [h]
theorem vtxAt_low {l : List Vtx} (hl : l.Pairwise (fun a b => a.x < b.x)) {k : Nat} (hk : k < l.length) : vtxAt l k = true ↔ Low l (l.getD k v0) := by
  unfold vtxAt Low
  rw [List.all_eq_true]
  constructor
  · intro h a ha c hc h1 h2
    obtain ⟨i, hi, rfl⟩ := List.getElem_of_mem ha
    obtain ⟨j, hj, rfl⟩ := List.getElem_of_mem hc
    have e : ∀ j (hj : j < l.length), l[j] = l.getD j v0 := fun j hj => by simp [List.getD, hj]
    rw [e i hi] at h1 ⊢
    rw [e j hj] at h2 ⊢
    have hik : i < k := by
      apply Nat.lt_of_not_le
      intro hle
      rcases Nat.lt_or_eq_of_le hle with h3 | h3
      · have := inc_getD hl h3 hi; omega
      · subst h3; omega
    have hkj : k < j := by
      apply Nat.lt_of_not_le
      intro hle
      rcases Nat.lt_or_eq_of_le hle with h3 | h3
      · have := inc_getD hl h3 hk; omega
      · subst h3; omega
    have h3 := h i (List.mem_range.2 hik)
    rw [List.all_eq_true] at h3
    have h4 := h3 (j - (k + 1)) (List.mem_range.2 (by omega))
    rw [show k + 1 + (j - (k + 1)) = j by omega, overB_cr] at h4
    simpa using h4
  · intro h i hi
    rw [List.mem_range] at hi
    rw [List.all_eq_true]
    intro j hj
    rw [List.mem_range] at hj
    have := h _ (getD_mem (show i < l.length by omega)) _ (getD_mem (show k + 1 + j < l.length by omega)) (inc_getD hl hi hk) (inc_getD hl (by omega) (by omega))
    rw [overB_cr]
    simpa using this
theorem hull_low {l : List Vtx} (hl : l.Pairwise (fun a b => a.x < b.x)) : lowTo l l.length = hull l := by
  have hmap : ∀ n, n ≤ l.length → (lowTo l n).Sublist (l.take n) := by
    intro n
    induction n with
    | zero => intro _; simp [lowTo]
    | succ n ih =>
      intro hn
      have e : l.take (n + 1) = l.take n ++ [l.getD n v0] := by
        rw [List.take_add_one, List.getElem?_eq_getElem (by omega), Option.toList_some]
        simp [List.getD, show n < l.length by omega]
      rw [lowTo_succ, e]
      split
      · exact List.Sublist.append (ih (by omega)) (List.Sublist.refl _)
      · exact (ih (by omega)).trans (List.sublist_append_left _ _)
  have h1 := hmap l.length (Nat.le_refl _)
  rw [List.take_length] at h1
  refine inc_ext (hl.sublist h1) (hl.sublist (hull_HI l hl).sub) fun v => ?_
  rw [hull_mem_iff hl]
  constructor
  · intro hv
    refine ⟨h1.subset hv, ?_⟩
    unfold lowTo at hv
    obtain ⟨i, hi, rfl⟩ := List.mem_map.1 hv
    rw [List.mem_filter, List.mem_range] at hi
    exact (vtxAt_low hl hi.1).1 hi.2
  · rintro ⟨hv, hlow⟩
    obtain ⟨i, hi, rfl⟩ := List.getElem_of_mem hv
    have e : l[i] = l.getD i v0 := by simp [List.getD, hi]
    rw [e] at hlow ⊢
    unfold lowTo
    exact List.mem_map.2 ⟨i, List.mem_filter.2 ⟨List.mem_range.2 hi, (vtxAt_low hl hi).2 hlow⟩, rfl⟩
end Gx
end
section
set_option autoImplicit false
namespace Gx
open Go Go.Proofs
set_option maxRecDepth 10000
theorem r13_above (lk : Nat) (H : Heap) (a b c : Vtx) (ha : SmV a) (hb : SmV b) (hc : SmV c) : gcall Tryz.prog md lk 105 [vV a, vV b, vV c] H = some (.bool (overB a b c), H) := by
  refine gcall_val rfl Tryz.func105 rfl rfl ?_
  obtain ⟨a1, a2, a3, a4⟩ := ha
  obtain ⟨b1, b2, b3, b4⟩ := hb
  obtain ⟨c1, c2, c3, c4⟩ := hc
  have e1 : IntKind.i64.wrap (b.y - a.y) = b.y - a.y := w64 (by omega) (by omega)
  have e2 : IntKind.i64.wrap (c.x - a.x) = c.x - a.x := w64 (by omega) (by omega)
  have e3 : IntKind.i64.wrap (c.y - a.y) = c.y - a.y := w64 (by omega) (by omega)
  have e4 : IntKind.i64.wrap (b.x - a.x) = b.x - a.x := w64 (by omega) (by omega)
  obtain ⟨m1, m2⟩ := mul_small (a := b.y - a.y) (b := c.x - a.x) (by omega) (by omega) (by omega) (by omega)
  obtain ⟨m3, m4⟩ := mul_small (a := c.y - a.y) (b := b.x - a.x) (by omega) (by omega) (by omega) (by omega)
  have e5 : IntKind.i64.wrap ((b.y - a.y) * (c.x - a.x)) = (b.y - a.y) * (c.x - a.x) := w64 (by omega) (by omega)
  have e6 : IntKind.i64.wrap ((c.y - a.y) * (b.x - a.x)) = (c.y - a.y) * (b.x - a.x) := w64 (by omega) (by omega)
  simp -dsimp only [go_sem, e1, e2, e3, e4, e5, e6]
  rfl
theorem r13_CheckPoints (lk : Nat) (H : Heap) (a : Option Addr) (f : List RI) (n : Nat) (p : Int) (hn : n = f.length) (hl : n ≤ 9223372036854775807) (hs : SL H a f) : gcall Tryz.prog md lk 29 [.slice a n n, .int .i64 p] H = some (.int .i64 (nck f p), H) := by
  refine gcall_val rfl Tryz.func29 rfl rfl ?_
  have k1 := fun lk => r11_Check lk H a f n hn hl hs
  have k2 := fun lk H' => r9_IsPrime lk H' p
  unfold nck
  by_cases h1 : ckL f = 0
  · rw [if_neg (fun h => h h1)]
    rw [h1] at k1
    by_cases h2 : 2 ≤ p ∧ p ≤ 65521 ∧ Pr p.toNat
    · rw [if_neg (fun h => h h2)]
      rw [decide_eq_true h2] at k2
      by_cases h3 : f.length = 0
      · have f3 : ((n : Int) = 0) = True := eq_true (by omega)
        rw [if_pos h3]
        simp -dsimp only [go_sem, k1, k2, f3]
      · have f3 : ((n : Int) = 0) = False := eq_false (by omega)
        rw [if_neg h3]
        simp -dsimp only [go_sem, k1, k2, f3]
    · rw [if_pos h2]
      rw [decide_eq_false h2] at k2
      simp -dsimp only [go_sem, k1, k2]
  · rw [if_pos h1]
    have f1 : (ckL f = 0) = False := eq_false h1
    simp -dsimp only [go_sem, k1, f1]
/-- Is the list short, with short numbers? -/
def shortB (f : List RI) (n k : Nat) : Bool := decide (f.length ≤ n) && f.all fun x => decide (x.abs.length ≤ k)
theorem l13_short (lk : Nat) (H : Heap) (a : Option Addr) (f : List RI) (m n k : Nat) (hm : m = f.length) (hl : m ≤ 9223372036854775807) (hs : SL H a f) :
    gcall Tryz.prog md lk 15 [.slice a m m, .int .i64 (n : Int), .int .i64 (k : Int)] H = some (.bool (shortB f n k), H) := by
  subst hm
  refine gcall_val rfl Tryz.func15 rfl rfl ?_
  unfold shortB
  by_cases h1 : f.length ≤ n
  · have f1 : ((n : Int) < ((f.length : Nat) : Int)) = False := eq_false (by omega)
    rw [decide_eq_true h1, Bool.true_and]
    simp -dsimp only [go_sem, f1]
    refine r_loop (m := fun i => f.length - i) (I := fun i σ H' => i ≤ f.length ∧ H' = H ∧ (∀ j (hj : j < f.length), j < i → f[j].abs.length ≤ k) ∧ σ 0 = .slice a f.length f.length ∧ σ 2 = .int .i64 (k : Int) ∧ σ 7 = .int .i64 (i : Int)) 0 ⟨Nat.zero_le _, rfl, fun j _ h => by omega, rfl, rfl, rfl⟩ ?_
    rintro i σ H' ⟨i1, rfl, hA, g0, g2, g5⟩
    by_cases hi : i < f.length
    · have f2 : ((i : Int) < ((f.length : Nat) : Int)) = True := eq_true (by omega)
      obtain ⟨b, o, B, rfl, hB, hz, hg⟩ := hs.ri i hi
      have hc := isub_get hg 1 (by omega)
      simp only [List.getElem?_cons_succ, List.getElem?_cons_zero] at hc
      have e7 : IntKind.i64.wrap ((i : Int) + 1) = ((i + 1 : Nat) : Int) := by rw [w64 (by omega) (by omega)]; omega
      by_cases h8 : f[i].abs.length ≤ k
      · have f3 : ((k : Int) < ((f[i].abs.length : Nat) : Int)) = False := eq_false (by omega)
        simp -dsimp only [go_sem, g0, g2, g5, f2, hB, hz, hi, hc, f3, e7]
        refine next (i + 1) (by show f.length - (i + 1) < f.length - i; omega) ⟨hi, rfl, fun j hj hji => ?_, g0, g2, rfl⟩
        by_cases he : j = i
        · subst he; exact h8
        · exact hA j hj (by omega)
      · have f3 : ((k : Int) < ((f[i].abs.length : Nat) : Int)) = True := eq_true (by omega)
        have hne : (f.all fun x => decide (x.abs.length ≤ k)) = false := by
          apply Bool.eq_false_iff.2
          intro h
          have := List.all_eq_true.1 h _ (List.getElem_mem hi)
          exact h8 (of_decide_eq_true this)
        rw [hne]
        simp -dsimp only [go_sem, g0, g2, g5, f2, hB, hz, hi, hc, f3]
    · have f2 : ((i : Int) < ((f.length : Nat) : Int)) = False := eq_false (by omega)
      have hal : (f.all fun x => decide (x.abs.length ≤ k)) = true := all_take _ _ (fun j hj => decide_eq_true (hA j hj (by omega)))
      rw [hal]
      simp -dsimp only [go_sem, g0, g5, f2]
  · have f1 : ((n : Int) < ((f.length : Nat) : Int)) = True := eq_true (by omega)
    rw [decide_eq_false h1, Bool.false_and]
    simp -dsimp only [go_sem, f1]
theorem r13_Points (lk : Nat) (H : Heap) (a : Option Addr) (f : List Int) (n p : Nat) (hn : n = f.length) (hl : n ≤ 100000) (hp : 2 ≤ p) (hp2 : p ≤ 100000) (hb : ∀ z ∈ f, (bytes z.natAbs).length < 1000000) (hs : SL H a f) :
    gcall Tryz.prog md lk 31 [.slice a n n, .int .i64 (p : Int)] H = some (.slice (mkA H (pts p f)) (pts p f).length (pts p f).length, H ++ mkN (pts p f)) := by
  subst hn
  refine gcall_own rfl Tryz.func31 rfl ?_
  simp -dsimp only [go_sem]
  refine r_loop (m := fun (s : Nat × Option Addr) => f.length - s.1) (I := fun s σ H' => s.1 ≤ f.length ∧ Ext H H' ∧ Own H.length H' s.2 (pts p (f.take s.1)) ∧ (s.2 = none ↔ pts p (f.take s.1) = []) ∧ σ 0 = .slice a f.length f.length ∧ σ 1 = .int .i64 (p : Int) ∧ σ 5 = .slice s.2 (pts p (f.take s.1)).length (pts p (f.take s.1)).length ∧ σ 6 = .int .i64 (s.1 : Int)) (0, none) ?_ ?_
  · exact ⟨Nat.zero_le _, Ext.refl _, Own.nil, by simp [pts, ptsFrom], rfl, rfl, rfl, rfl⟩
  · rintro ⟨i, a2⟩ σ H' ⟨h1, hE, hO, hN, g0, g1, g5, g6⟩
    simp only [] at h1 hO hN g5 g6
    by_cases hi : i < f.length
    · have f1 : ((i : Int) < ((f.length : Nat) : Int)) = True := eq_true (by omega)
      obtain ⟨b, o, B, rfl, hB, hz, hg⟩ := hs.int i hi
      have hB' := hE.live hB
      have hlo := hE.le
      have e7 : IntKind.i64.wrap ((i : Int) + 1) = ((i + 1 : Nat) : Int) := by rw [w64 (by omega) (by omega)]; omega
      have htk := pts_take p f i hi
      have hbz := hb f[i] (List.getElem_mem hi)
      have kz := fun lk H' => r2_IsZero lk H' f[i]
      by_cases h0 : f[i] = 0
      · rw [if_pos h0] at htk
        rw [decide_eq_true h0] at kz
        simp -dsimp only [go_sem, g0, g1, g5, g6, f1, hB', hz, hg, hi, kz, e7]
        refine next (i + 1, a2) (by show f.length - (i + 1) < f.length - i; omega) ⟨hi, hE, ?_, ?_, g0, g1, ?_, rfl⟩
        · simp only [htk]; exact hO
        · simp only [htk]; exact hN
        · simp only [htk]; exact g5
      · rw [if_neg h0] at htk
        rw [decide_eq_false h0] at kz
        have k1 := fun lk H' => r2_Valuation lk H' f[i] p h0 hp hp2 hbz
        have hv := vp_le hp f[i].natAbs (by omega)
        have hO3 := hO.more [⟨[.bool (decide (f[i] < 0)), .string (mkS (bytes (vq p f[i].natAbs)))], 2, false⟩]
        have hap := fun t t2 => ap_own (P := Tryz.prog) (lk := H.length) (t := t) (t2 := t2) hO3 (Nat.le_refl _) rfl [.int .i64 (i : Int), .int .i64 (vp p f[i].natAbs : Int)] 2 rfl rfl
        have hO2 := own_ap (lo := H.length) (H := H' ++ [⟨[.bool (decide (f[i] < 0)), .string (mkS (bytes (vq p f[i].natAbs)))], 2, false⟩]) (a := a2) (l := pts p (f.take i)) (⟨i, vp p f[i].natAbs⟩ : Vtx) [⟨[.int .i64 (i : Int), .int .i64 (vp p f[i].natAbs : Int)], 2, false⟩] (by simp; omega)
        have hE2 : Ext H (kill (H' ++ [⟨[.bool (decide (f[i] < 0)), .string (mkS (bytes (vq p f[i].natAbs)))], 2, false⟩] ++ [⟨[.int .i64 (i : Int), .int .i64 (vp p f[i].natAbs : Int)], 2, false⟩]) a2) := (hO3.more _).kill ((hE.more _).more _)
        rw [← htk] at hO2
        have hlen := pts_len p 0 (f.take i)
        rw [List.length_take, Nat.min_eq_left (by omega)] at hlen
        change (pts p (f.take i)).length ≤ i at hlen
        simp only [List.append_assoc, List.cons_append, List.nil_append, List.length_append, List.length_cons, List.length_nil, Nat.add_assoc, Nat.zero_add, Nat.reduceAdd] at hap hO2 hE2
        simp -dsimp only [go_sem, g0, g1, g5, g6, f1, hB', hz, hg, hi, kz, e7, k1, reps, hlo, hap]
        refine ⟨by omega, next (i + 1, some ⟨H'.length + 2, 0, none⟩) (by show f.length - (i + 1) < f.length - i; omega) ⟨hi, hE2.more _, hO2, by simp [htk], g0, g1, ?_, rfl⟩⟩
        simp only [upd, htk, List.length_append]; rfl
    · have hi' : i = f.length := by omega
      subst hi'
      rw [List.take_length] at hO hN g5
      have hc := compV_mk hO rfl hN (cells_kok (fun x => rfl) _)
      simp -dsimp only [go_sem, g0, g5, g6, Int.lt_irrefl]
      exact hc
end Gx
end
section
set_option autoImplicit false
namespace Gx
open Go Go.Proofs
set_option maxRecDepth 10000
def rowB (l : List Vtx) (k i m : Nat) : Bool := (List.range m).all fun j => !overB (l.getD i v0) (l.getD k v0) (l.getD (k + 1 + j) v0)
def vtxTo (l : List Vtx) (k i : Nat) : Bool := (List.range i).all fun i => rowB l k i (l.length - (k + 1))
theorem rowB_succ (l : List Vtx) (k i m : Nat) : rowB l k i (m + 1) = (rowB l k i m && !overB (l.getD i v0) (l.getD k v0) (l.getD (k + 1 + m) v0)) := by
  unfold rowB; rw [List.range_succ, List.all_append]; simp
theorem vtxTo_succ (l : List Vtx) (k i : Nat) : vtxTo l k (i + 1) = (vtxTo l k i && rowB l k i (l.length - (k + 1))) := by
  unfold vtxTo; rw [List.range_succ, List.all_append]; simp
theorem vtxAt_eq (l : List Vtx) (k : Nat) : vtxAt l k = vtxTo l k k := rfl
theorem lowTo_len (l : List Vtx) (k : Nat) : (lowTo l k).length ≤ k := by
  unfold lowTo
  rw [List.length_map]
  have := List.length_filter_le (fun i => vtxAt l i) (List.range k)
  rw [List.length_range] at this
  exact this
theorem r13_Vertices (lk : Nat) (H : Heap) (a : Option Addr) (f : List Int) (n p : Nat) (hn : n = f.length) (hp : 2 ≤ p) (hp2 : p ≤ 100000) (hg : OkP f) (hs : SL H a f) :
    gcall Tryz.prog md lk 32 [.slice a n n, .int .i64 (p : Int)] H = some (.slice (mkA H (hull (pts p f))) (hull (pts p f)).length (hull (pts p f)).length, H ++ mkN (hull (pts p f))) := by
  subst hn
  refine gcall_own rfl Tryz.func32 rfl ?_
  have hfl := hg.len
  have k1 := fun lk => r13_Points lk H a f f.length p rfl (by omega) hp hp2 (fun z hz => by have := hg.small z hz; omega) hs
  have hsm := pts_small hp hg
  have hinc := (pts_from p 0 f).1
  have hpl := pts_len p 0 f
  change (pts p f).length ≤ f.length at hpl
  change (pts p f).Pairwise _ at hinc
  have hS := mk_sl H (pts p f)
  rw [← hull_low hinc]
  simp -dsimp only [go_sem, k1]
  generalize pts p f = l at *
  have hH1 : H.length ≤ (H ++ mkN l).length := by rw [List.length_append]; omega
  have hX : Ext H (H ++ mkN l) := Ext.app _ _
  refine r_loop (m := fun (s : Nat × Option Addr) => l.length - s.1) (I := fun s σ H' => s.1 ≤ l.length ∧ Ext (H ++ mkN l) H' ∧ Own (H ++ mkN l).length H' s.2 (lowTo l s.1) ∧ (s.2 = none ↔ lowTo l s.1 = []) ∧ σ 5 = .slice s.2 (lowTo l s.1).length (lowTo l s.1).length ∧ σ 6 = .slice (mkA H l) l.length l.length ∧ σ 7 = .int .i64 (s.1 : Int)) (0, none) ?_ ?_
  · exact ⟨Nat.zero_le _, Ext.refl _, Own.nil, by simp [lowTo], rfl, rfl, rfl⟩
  · generalize H ++ mkN l = H1 at *
    rintro ⟨k, a2⟩ σ H' ⟨h1, hE, hO, hN, g5, g6, g7⟩
    simp only [] at h1 hO hN g5 g7
    by_cases hk : k < l.length
    · have f1 : ((k : Int) < ((l.length : Nat) : Int)) = True := eq_true (by omega)
      have e1 : IntKind.i64.wrap ((k : Int) + 1) = ((k + 1 : Nat) : Int) := by rw [w64 (by omega) (by omega)]; omega
      obtain ⟨b, o, B, hbo, hB, hz, hgt, _, _⟩ := hS.allV (by omega)
      rw [hbo] at g6
      have hB' := hE.live hB
      have hlo := hE.le
      have vk := hsm _ (List.getElem_mem hk)
      simp -dsimp only [go_sem, g5, g6, g7, f1]
      refine r_loop (m := fun i => k - i) (I := fun i σ H2 => i ≤ k ∧ H2 = H' ∧ σ 5 = .slice a2 (lowTo l k).length (lowTo l k).length ∧ σ 6 = .slice (some ⟨b, o, none⟩) l.length l.length ∧ σ 7 = .int .i64 (k : Int) ∧ σ 8 = .bool (vtxTo l k i) ∧ σ 9 = .int .i64 (i : Int)) 0 ⟨Nat.zero_le _, rfl, g5, g6, g7, rfl, rfl⟩ ?_
      rintro i σ H2 ⟨i1, rfl, g5, g6, g7, g8, g9⟩
      by_cases hi : i < k
      · have f2 : ((i : Int) < (k : Int)) = True := eq_true (by omega)
        have e2 : IntKind.i64.wrap ((i : Int) + 1) = ((i + 1 : Nat) : Int) := by rw [w64 (by omega) (by omega)]; omega
        have hil : i < l.length := by omega
        have vi := hsm _ (List.getElem_mem hil)
        simp -dsimp only [go_sem, g5, g6, g7, g8, g9, f2, e1]
        refine r_loop (m := fun m => l.length - m) (I := fun m σ H3 => k + 1 + m ≤ l.length ∧ H3 = H2 ∧ σ 5 = .slice a2 (lowTo l k).length (lowTo l k).length ∧ σ 6 = .slice (some ⟨b, o, none⟩) l.length l.length ∧ σ 7 = .int .i64 (k : Int) ∧ σ 8 = .bool (vtxTo l k i && rowB l k i m) ∧ σ 9 = .int .i64 (i : Int) ∧ σ 10 = .int .i64 ((k + 1 + m : Nat) : Int)) 0 ⟨hk, rfl, g5, g6, g7, by rw [show rowB l k i 0 = true from rfl, Bool.and_true]; exact g8, g9, rfl⟩ ?_
        rintro m σ H3 ⟨m1, rfl, g5, g6, g7, g8, g9, g10⟩
        by_cases hm : k + 1 + m < l.length
        · have f3 : (((k + 1 + m : Nat) : Int) < ((l.length : Nat) : Int)) = True := eq_true (by omega)
          have e3 : IntKind.i64.wrap (((k + 1 + m : Nat) : Int) + 1) = ((k + 1 + (m + 1) : Nat) : Int) := by rw [w64 (by omega) (by omega)]; omega
          have hrs := rowB_succ l k i m
          simp only [List.getD, List.getElem?_eq_getElem hil, List.getElem?_eq_getElem hk, List.getElem?_eq_getElem hm, Option.getD_some] at hrs
          have vj := hsm _ (List.getElem_mem hm)
          have ka := fun lk H' => r13_above lk H' l[i] l[k] l[k + 1 + m] vi vk vj
          have gi := hgt i hil
          have gk := hgt k hk
          have gj := hgt (k + 1 + m) hm
          cases hb : (vtxTo l k i && rowB l k i m) with
          | false =>
            rw [hb] at g8
            simp -dsimp only [go_sem, g6, g8, g9, g10, f3, e3]
            exact next (m + 1) (by show l.length - (m + 1) < l.length - m; omega) ⟨by omega, rfl, g5, g6, g7, by rw [hrs, ← Bool.and_assoc, hb]; rfl, g9, rfl⟩
          | true =>
            rw [hb] at g8
            simp -dsimp only [go_sem, g6, g7, g8, g9, g10, f3, e3, hB', hz, gi, gk, gj, hil, hk, hm, ka]
            exact next (m + 1) (by show l.length - (m + 1) < l.length - m; omega) ⟨by omega, rfl, g5, g6, g7, by rw [hrs, ← Bool.and_assoc, hb]; rfl, g9, rfl⟩
        · have f3 : (((k + 1 + m : Nat) : Int) < ((l.length : Nat) : Int)) = False := eq_false (by omega)
          have hmm : m = l.length - (k + 1) := by omega
          rw [hmm, ← vtxTo_succ] at g8
          simp -dsimp only [go_sem, g6, g9, g10, f3, e2]
          exact next (i + 1) (by show k - (i + 1) < k - i; omega) ⟨hi, rfl, g5, g6, g7, g8, rfl⟩
      · have f2 : ((i : Int) < (k : Int)) = False := eq_false (by omega)
        have hik : i = k := by omega
        subst hik
        have hsu := lowTo_succ l i
        simp only [List.getD, List.getElem?_eq_getElem hk, Option.getD_some] at hsu
        rw [vtxAt_eq] at hsu
        have hll := lowTo_len l i
        cases hb : vtxTo l i i with
        | false =>
          rw [hb] at g8
          rw [hb, if_neg (by decide)] at hsu
          simp -dsimp only [go_sem, g7, g8, g9, f2, e1]
          refine next (i + 1, a2) (by show l.length - (i + 1) < l.length - i; omega) ⟨hk, hE, ?_, ?_, ?_, by rw [hbo]; exact g6, rfl⟩
          · simp only [hsu]; exact hO
          · simp only [hsu]; exact hN
          · simp only [hsu]; exact g5
        | true =>
          rw [hb] at g8
          rw [hb, if_pos rfl] at hsu
          have gk := hgt i hk
          have hap := fun t t2 => ap_own (P := Tryz.prog) (lk := H.length) (t := t) (t2 := t2) hO hH1 rfl [.int .i64 l[i].x, .int .i64 l[i].y] 2 rfl rfl
          have hO2 := own_ap (lo := H1.length) (H := H2) (a := a2) (l := lowTo l i) l[i] [⟨[.int .i64 l[i].x, .int .i64 l[i].y], 2, false⟩] (by simp; omega)
          have hE2 : Ext H1 (kill (H2 ++ [⟨[.int .i64 l[i].x, .int .i64 l[i].y], 2, false⟩]) a2) := (hO.more _).kill (hE.more _)
          rw [← hsu] at hO2
          simp -dsimp only [go_sem, g5, g6, g7, g8, g9, f2, e1, hB', hz, gk, hk, reps, hap]
          refine ⟨by omega, next (i + 1, some ⟨H2.length + 1, 0, none⟩) (by show l.length - (i + 1) < l.length - i; omega) ⟨hk, hE2.more _, hO2, by simp [hsu], ?_, by rw [hbo]; exact g6, rfl⟩⟩
          simp only [upd, hsu, List.length_append]; rfl
    · have hk' : k = l.length := by omega
      subst hk'
      have hc := compV_mk (hO.low hH1) rfl hN (cells_kok (fun x => rfl) _)
      simp -dsimp only [go_sem, g5, g6, g7, Int.lt_irrefl]
      exact hc
end Gx
end
section
set_option autoImplicit false
namespace Gx
open Go Go.Proofs
set_option maxRecDepth 10000
def IncV (l : List Vtx) : Prop := ∀ i (h : i + 1 < l.length), l[i].x < l[i + 1].x
theorem r13_Sides (lk : Nat) (H : Heap) (a : Option Addr) (f : List Int) (n p : Nat) (hn : n = f.length) (hp : 2 ≤ p) (hp2 : p ≤ 100000) (hg : OkP f) (hs : SL H a f) :
    gcall Tryz.prog md lk 33 [.slice a n n, .int .i64 (p : Int)] H = some (.slice (mkA H (sidesOf (hull (pts p f)))) (sidesOf (hull (pts p f))).length (sidesOf (hull (pts p f))).length, H ++ mkN (sidesOf (hull (pts p f)))) := by
  refine gcall_own rfl Tryz.func33 rfl ?_
  have hfl := hg.len
  have k1 := fun lk => r13_Vertices lk H a f n p hn hp hp2 hg hs
  have hv : ∀ v ∈ hull (pts p f), SmV v := fun v h => pts_small hp hg v (hull_mem h)
  have hx : IncV (hull (pts p f)) := hull_inc (l := pts p f) (pts_from p 0 f).1
  have hpl := pts_len p 0 f
  change (pts p f).length ≤ f.length at hpl
  have hhl := hull_len (pts p f)
  have hS := mk_sl H (hull (pts p f))
  simp -dsimp only [go_sem, k1]
  have hl : (hull (pts p f)).length ≤ 100000 := by omega
  generalize hull (pts p f) = l at *
  have hH1 : H.length ≤ (H ++ mkN l).length := by rw [List.length_append]; omega
  generalize mkA H l = a0 at *
  refine r_loop (m := fun (s : Nat × Option Addr) => l.length - s.1) (I := fun s σ H' => (s.1 = 0 ∨ s.1 < l.length) ∧ Ext (H ++ mkN l) H' ∧ Own (H ++ mkN l).length H' s.2 (sidesTo l s.1) ∧ (s.2 = none ↔ sidesTo l s.1 = []) ∧ σ 6 = .slice a0 l.length l.length ∧ σ 5 = .slice s.2 s.1 s.1 ∧ σ 7 = .int .i64 ((s.1 + 1 : Nat) : Int)) (0, none) ?_ ?_
  · exact ⟨.inl rfl, Ext.refl _, Own.nil, by simp [sidesTo], rfl, rfl, rfl⟩
  · generalize H ++ mkN l = H1 at *
    rintro ⟨i, a2⟩ σ H' ⟨h1, hE, hO, hN, g0, g4, g5⟩
    simp only [] at h1 hO hN g4 g5
    by_cases hi : i + 1 < l.length
    · have f1 : (((i + 1 : Nat) : Int) < ((l.length : Nat) : Int)) = True := eq_true (by omega)
      have hi0 : i < l.length := by omega
      obtain ⟨b, o, B, rfl, hB, hz, hg⟩ := hS.vtx i hi0
      obtain ⟨b2, o2, B2, heq, hB2, hz2, hg2⟩ := hS.vtx (i + 1) hi
      cases heq
      rw [hB] at hB2
      cases hB2
      have hB' := hE.live hB
      have hlo := hE.le
      have e1 : IntKind.i64.wrap (((i + 1 : Nat) : Int) - 1) = (i : Int) := by rw [w64 (by omega) (by omega)]; omega
      have e7 : IntKind.i64.wrap (((i + 1 : Nat) : Int) + 1) = ((i + 1 + 1 : Nat) : Int) := by rw [w64 (by omega) (by omega)]; omega
      have v1 := hv _ (List.getElem_mem hi0)
      have v2 := hv _ (List.getElem_mem hi)
      have hlt := hx i hi
      obtain ⟨x1, x2, x3, x4⟩ := v1
      obtain ⟨y1, y2, y3, y4⟩ := v2
      have k := fun lk H' => r3_Of lk H' (l[i + 1].y - l[i].y) (l[i + 1].x - l[i].x) (by omega) (by omega) (by omega)
      have hsucc := sidesTo_succ l i
      simp only [List.getD, List.getElem?_eq_getElem hi0, List.getElem?_eq_getElem hi, Option.getD_some] at hsucc
      have e3 : IntKind.i64.wrap (l[i + 1].x - l[i].x) = l[i + 1].x - l[i].x := w64 (by omega) (by omega)
      have e4 : IntKind.i64.wrap (l[i + 1].y - l[i].y) = l[i + 1].y - l[i].y := w64 (by omega) (by omega)
      have hap := fun t t2 => ap_own (P := Tryz.prog) (lk := H.length) (t := t) (t2 := t2) hO hH1 (sidesTo_len l i).symm (Enc.enc (sideOf l[i] l[i + 1])) 4 rfl rfl
      have hO2 := own_ap (lo := H1.length) (H := H') (a := a2) (l := sidesTo l i) (sideOf l[i] l[i + 1]) [⟨Enc.enc (sideOf l[i] l[i + 1]), 4, false⟩] (by simp; omega)
      have hE2 : Ext H1 (kill (H' ++ [⟨Enc.enc (sideOf l[i] l[i + 1]), 4, false⟩]) a2) := (hO.more _).kill (hE.more _)
      rw [← hsucc] at hO2
      have henc : Enc.enc (sideOf l[i] l[i + 1]) = [Value.bool (decide ((Rat.divInt (l[i + 1].y - l[i].y) (l[i + 1].x - l[i].x)).num < 0)), .string (mkS (bytes (Rat.divInt (l[i + 1].y - l[i].y) (l[i + 1].x - l[i].x)).num.natAbs)), .string (mkS (bytes (Rat.divInt (l[i + 1].y - l[i].y) (l[i + 1].x - l[i].x)).den)), .int .i64 (l[i + 1].x - l[i].x)] := rfl
      rw [henc] at hap hO2 hE2
      have hil : i < l.length := hi0
      have hc1 : B.c[o + i * 2]? = some (.int .i64 l[i].x) := isub_get hg 0 (by omega)
      have hc2 : B.c[o + (i + 1) * 2]? = some (.int .i64 l[i + 1].x) := isub_get hg2 0 (by omega)
      have hd1 : B.c[o + i * 2 + 1]? = some (.int .i64 l[i].y) := isub_get hg 1 (by omega)
      have hd2 : B.c[o + (i + 1) * 2 + 1]? = some (.int .i64 l[i + 1].y) := isub_get hg2 1 (by omega)
      simp -dsimp only [go_sem, g0, g4, g5, f1, e1, e3, e4, e7, hB', hz, hi, hil, k, reps, hap, hlo, hc1, hc2, hd1, hd2]
      exact ⟨by omega, next (i + 1, some ⟨H'.length + 1, 0, none⟩) (by show l.length - (i + 1) < l.length - i; omega) ⟨.inr hi, hE2.more _, hO2, by simp [hsucc], g0, rfl, rfl⟩⟩
    · have f1 : (((i + 1 : Nat) : Int) < ((l.length : Nat) : Int)) = False := eq_false (by omega)
      have hil : i = l.length - 1 := by omega
      subst hil
      have hc := compV_mk (hO.low hH1) (sidesTo_len l _).symm hN (cells_kok (fun x => rfl) _)
      simp -dsimp only [go_sem, g0, g4, g5, f1]
      rw [hc]
      unfold sidesOf
      rw [sidesTo_len]
theorem r1_UintL (lk : Nat) (H : Heap) (l : List UInt8) (hl : l.length ≤ 1000000000) : gcall Tryz.prog md lk 246 [.string (mkS l)] H = some (.tuple #[.int .u64 ((if l.length ≤ 8 then bval l else 0 : Nat) : Int), .bool (decide (l.length ≤ 8))], H) := by
  refine gcall_val rfl Tryz.func246 rfl rfl ?_
  by_cases h8 : l.length ≤ 8
  · have f1 : (8 < ((l.length : Nat) : Int)) = False := eq_false (by omega)
    rw [decide_eq_true h8, if_pos h8]
    simp -dsimp only [go_sem, f1]
    refine r_loop (m := fun i => l.length - i) (I := fun i σ H' => i ≤ l.length ∧ H' = H ∧ σ 0 = .string (mkS l) ∧ σ 4 = .int .u64 ((bval (l.take i) : Nat) : Int) ∧ σ 5 = .int .i64 (i : Int)) 0 ⟨Nat.zero_le _, rfl, rfl, rfl, rfl⟩ ?_
    rintro i σ H' ⟨i1, rfl, g0, g4, g5⟩
    by_cases hi : i < l.length
    · have f2 : ((i : Int) < ((l.length : Nat) : Int)) = True := eq_true (by omega)
      have hb : l[i].toNat < 256 := l[i].toNat_lt
      have hbt := bval_take l i hi
      have hlt := bval_lt (l.take i)
      have hp : 256 ^ (l.take i).length ≤ 256 ^ 7 := Nat.pow_le_pow_right (by decide) (by rw [List.length_take]; omega)
      have hp7 : (256 : Nat) ^ 7 = 72057594037927936 := by decide
      have c1 : IntKind.u64.wrap (((bval (l.take i) : Nat) : Int) * 256) = ((bval (l.take i) * 256 : Nat) : Int) := by
        rw [IntKind.wrap_u64]; omega
      have c2 : IntKind.u64.wrap ((l[i].toNat : Nat) : Int) = ((l[i].toNat : Nat) : Int) := u64n (by omega)
      have c3 : IntKind.u64.wrap (((bval (l.take i) * 256 : Nat) : Int) + ((l[i].toNat : Nat) : Int)) = ((bval (l.take (i + 1)) : Nat) : Int) := by
        rw [IntKind.wrap_u64, hbt]; omega
      have e7 : IntKind.i64.wrap ((i : Int) + 1) = ((i + 1 : Nat) : Int) := by rw [w64 (by omega) (by omega)]; omega
      simp -dsimp only [go_sem, g0, g4, g5, f2, hi, byt_mkS l i hi, c1, c2, c3, e7]
      exact next (i + 1) (by show l.length - (i + 1) < l.length - i; omega) ⟨hi, rfl, g0, rfl, rfl⟩
    · have f2 : ((i : Int) < ((l.length : Nat) : Int)) = False := eq_false (by omega)
      have hii : i = l.length := by omega
      subst hii
      rw [List.take_length] at g4
      simp -dsimp only [go_sem, g0, g4, g5, f2]
  · have f1 : (8 < ((l.length : Nat) : Int)) = True := eq_true (by omega)
    rw [decide_eq_false h8, if_neg h8]
    simp -dsimp only [go_sem, f1, Int.natCast_zero]
/-- A number that is not negative as a machine integer. -/
theorem r2_ToIntP (lk : Nat) (H : Heap) (n : Nat) (hl : (bytes n).length ≤ 1000000000) : gcall Tryz.prog md lk 179 [.agg #[.bool false, .string (mkS (bytes n))]] H = some (.tuple #[.int .i64 (if n ≤ 9223372036854775807 then (n : Int) else 0), .bool (decide (n ≤ 9223372036854775807))], H) := by
  refine gcall_val rfl Tryz.func179 rfl rfl ?_
  have k1 := fun lk H' => r1_UintL lk H' (bytes n) hl
  rw [bval_bytes] at k1
  by_cases h8 : (bytes n).length ≤ 8
  · rw [decide_eq_true h8, if_pos h8] at k1
    by_cases hn : n ≤ 9223372036854775807
    · have f1 : (9223372036854775808 < (n : Int)) = False := eq_false (by omega)
      have f2 : ((n : Int) = 9223372036854775808) = False := eq_false (by omega)
      have e1 : IntKind.i64.wrap (n : Int) = (n : Int) := w64 (by omega) (by omega)
      rw [decide_eq_true hn, if_pos hn]
      simp -dsimp only [go_sem, k1, f1, f2, e1]
    · rw [decide_eq_false hn, if_neg hn]
      by_cases h9 : n = 9223372036854775808
      · have f1 : (9223372036854775808 < (n : Int)) = False := eq_false (by omega)
        have f2 : ((n : Int) = 9223372036854775808) = True := eq_true (by omega)
        simp -dsimp only [go_sem, k1, f1, f2]
      · have f1 : (9223372036854775808 < (n : Int)) = True := eq_true (by omega)
        simp -dsimp only [go_sem, k1, f1]
  · rw [decide_eq_false h8, if_neg h8] at k1
    have hn : ¬ n ≤ 9223372036854775807 := fun h => h8 (bl_small (by omega))
    rw [decide_eq_false hn, if_neg hn]
    simp -dsimp only [go_sem, k1, Int.natCast_zero]
/-- A denominator of at most 64, or 0. -/
def whole (q : Rat) : Int := if q.den ≤ 64 then (q.den : Int) else 0
theorem r13_whole (lk : Nat) (H : Heap) (q : Rat) (hl : (bytes q.den).length ≤ 1000000000) : gcall Tryz.prog md lk 106 [vR q] H = some (.int .i64 (whole q), H) := by
  refine gcall_val rfl Tryz.func106 rfl rfl ?_
  have k1 := fun lk H' => r2_ToIntP lk H' q.den hl
  unfold whole
  by_cases hn : q.den ≤ 9223372036854775807
  · rw [decide_eq_true hn, if_pos hn] at k1
    by_cases h6 : q.den ≤ 64
    · have f1 : (64 < (q.den : Int)) = False := eq_false (by omega)
      rw [if_pos h6]
      simp -dsimp only [go_sem, k1, f1]
    · have f1 : (64 < (q.den : Int)) = True := eq_true (by omega)
      rw [if_neg h6]
      simp -dsimp only [go_sem, k1, f1]
  · rw [decide_eq_false hn, if_neg hn] at k1
    rw [if_neg (by omega)]
    simp -dsimp only [go_sem, k1]
theorem sides_len64 {p : Nat} {f : List Int} (h : OkP f) : ∀ s ∈ sidesOf (hull (pts p f)), 1 ≤ s.n ∧ s.n ≤ 64 ∧ s.s.den ≤ 64 := by
  intro s hs
  have hx : ∀ i (hi : i + 1 < (hull (pts p f)).length), (hull (pts p f))[i].x < (hull (pts p f))[i + 1].x := hull_inc (l := pts p f) (pts_from p 0 f).1
  unfold sidesOf sidesTo at hs
  obtain ⟨i, hi, rfl⟩ := List.mem_map.1 hs
  rw [List.mem_range] at hi
  have hi0 : i < (hull (pts p f)).length := by omega
  have hi1 : i + 1 < (hull (pts p f)).length := by omega
  have hlen := h.len
  obtain ⟨a1, a2, _⟩ := (pts_from p 0 f).2 _ (hull_mem (List.getElem_mem hi0))
  obtain ⟨b1, b2, _⟩ := (pts_from p 0 f).2 _ (hull_mem (List.getElem_mem hi1))
  have := hx i hi1
  simp only [List.getD, List.getElem?_eq_getElem hi0, List.getElem?_eq_getElem hi1, Option.getD_some, sideOf]
  have d1 := rat_den_le ((hull (pts p f))[i + 1].y - (hull (pts p f))[i].y) ((hull (pts p f))[i + 1].x - (hull (pts p f))[i].x) (by omega)
  exact ⟨by omega, by omega, by omega⟩
theorem r13_IsPure (lk : Nat) (H : Heap) (a : Option Addr) (g : List Int) (q n : Nat) (hn : n = g.length) (hs : SL H a g) (hg : OkP g) (h2 : 2 ≤ q) (h3 : q ≤ 65521) (h5 : 0 < g.length) :
    gcall Tryz.prog md lk 34 [.slice a n n, .int .i64 (q : Int)] H = some (.bool (pureB q g), H) := by
  refine gcall_val rfl Tryz.func34 rfl rfl ?_
  have hlen := hg.len
  have k1 := fun lk => r13_Sides lk H a g n q hn h2 (by omega) hg hs
  obtain ⟨b, o, B, rfl, hB, hz, hgt⟩ := hs.int 0 h5
  rw [Nat.zero_mul, Nat.add_zero] at hgt
  have hB' := ilive_app (N := mkN (sidesOf (hull (pts q g)))) hB
  have hsm := sides_len64 (p := q) hg
  have hS := mk_sl H (sidesOf (hull (pts q g)))
  have hg0 : g.getD 0 0 = g[0] := by simp [List.getD, h5]
  have f1 : (0 : Int) < ((n : Nat) : Int) := by omega
  have kz := fun lk H' => r2_IsZero lk H' g[0]
  unfold pureB
  rw [hg0]
  generalize sidesOf (hull (pts q g)) = S at *
  by_cases h0 : g[0] = 0
  · rw [decide_eq_false (fun h => h h0), Bool.false_and]
    rw [decide_eq_true h0] at kz
    simp -dsimp only [go_sem, k1, hB', hz, hgt, eq_true f1, kz]
  · rw [decide_eq_true h0, Bool.true_and]
    rw [decide_eq_false h0] at kz
    by_cases hl : S.length = 1
    · obtain ⟨x, rfl⟩ := List.length_eq_one_iff.1 hl
      obtain ⟨b2, o2, B2, hb2, hB2, hz2, hg2⟩ := hS.sd 0 (by simp)
      rw [Nat.zero_mul, Nat.add_zero] at hg2
      obtain ⟨x1, x2, x3⟩ := hsm x (by simp)
      have lx := bl_small (n := x.s.den) (by omega)
      have k2 := fun lk H' => r13_whole lk H' x.s (by omega)
      have hd : whole x.s = (x.s.den : Int) := by unfold whole; rw [if_pos (by omega)]
      rw [hd] at k2
      have hc := isub_get hg2 3 (by omega)
      have hg3 := isub_cut hg2 (show 3 ≤ 4 by omega)
      simp only [List.getElem_cons_zero, List.getElem?_cons_succ, List.getElem?_cons_zero, List.take_succ_cons, List.take_zero] at hg2 hc hg3
      simp only [List.length_singleton] at *
      rw [hb2] at k1
      simp -dsimp only [go_sem, k1, hB', hz, hgt, eq_true f1, kz, hB2, hz2, hg2, hg3, k2, hc]
    · have f2 : (((S.length : Nat) : Int) = 1) = False := eq_false (by omega)
      simp -dsimp only [go_sem, k1, hB', hz, hgt, eq_true f1, kz, f2]
      congr 3
      split
      · simp at hl
      · rfl
theorem p_IsPureBad (lk : Nat) (H : Heap) (a : Option Addr) (f : List RI) (n : Nat) (p : Int) (hn : n = f.length) (hl : n ≤ 9223372036854775807) (hs : SL H a f) (h : nck f p ≠ 0) :
    gcall Tryz.prog md lk 28 [.slice a n n, .int .i64 p] H = some (.tuple #[.bool false, .int .i64 (nck f p)], H) := by
  refine gcall_val rfl Tryz.func28 rfl rfl ?_
  have k1 := fun lk => (p_Sides lk H a f n p hn hl hs).1 h
  have f1 : (nck f p = 0) = False := eq_false h
  simp -dsimp only [go_sem, k1, f1]
end Gx
end
section
set_option autoImplicit false
namespace Gx
open Go Go.Proofs
set_option maxRecDepth 10000
theorem r1_Pow (lk : Nat) (H : Heap) (X K : Nat) (hX : 1 ≤ X) (hK : K ≤ 1000000) (hl : (bytes (X ^ K)).length < 10000000) (hl1 : (bytes X).length < 10000000) : gcall Tryz.prog md lk 87 [.string (mkS (bytes X)), .int .i64 (K : Int)] H = some (.string (mkS (bytes (X ^ K))), H) := by
  refine gcall_val rfl Tryz.func87 rfl rfl ?_
  have one : bytes 1 = [1] := bytes_one
  have k1 := fun lk H' => r1_Of lk H' 1 (by decide)
  simp only [Int.natCast_one] at k1
  simp -dsimp only [go_sem, k1]
  refine r_loop (m := fun (s : Nat × Nat × Nat) => s.2.2) (I := fun s σ H' => H' = H ∧ s.1 * s.2.1 ^ s.2.2 = X ^ K ∧ 1 ≤ s.1 ∧ 1 ≤ s.2.1 ∧ s.2.2 ≤ K ∧ (bytes s.2.1).length < 30000000 ∧ σ 0 = .string (mkS (bytes s.2.1)) ∧ σ 1 = .int .i64 (s.2.2 : Int) ∧ σ 5 = .string (mkS (bytes s.1))) (1, X, K) ?_ ?_
  · exact ⟨rfl, Nat.one_mul _, Nat.le_refl _, hX, Nat.le_refl _, by simp only []; omega, rfl, rfl, rfl⟩
  · rintro ⟨c, x, k⟩ σ H' ⟨rfl, hp, hc, hx, hk, hlx, g0, g1, g5⟩
    simp only [] at hp hc hx hk hlx g0 g1 g5
    by_cases h0 : 0 < k
    · have f1 : (0 < (k : Int)) = True := eq_true (by omega)
      have hxk : x ≤ x ^ k := by
        have := Nat.pow_le_pow_right hx (show 1 ≤ k by omega)
        rwa [Nat.pow_one] at this
      have hxp : x ≤ X ^ K := by
        rw [← hp]
        exact Nat.le_trans hxk (Nat.le_mul_of_pos_left _ hc)
      have hcp : c ≤ X ^ K := by
        rw [← hp]; exact Nat.le_mul_of_pos_right _ (Nat.pow_pos hx)
      have b1 := bl_mono hxp
      have b2 := bl_mono hcp
      have b3 := bl_mul x x
      have e1 : IntKind.i64.wrap ((k : Int).tmod 2) = ((k % 2 : Nat) : Int) := by
        rw [Int.tmod_eq_emod_of_nonneg (by omega), w64 (by omega) (by omega)]; omega
      have e2 : IntKind.i64.wrap ((k : Int).tdiv 2) = ((k / 2 : Nat) : Int) := by
        rw [Int.tdiv_eq_ediv_of_nonneg (by omega), w64 (by omega) (by omega)]; omega
      have e3 : Int.tmod (k : Int) 2 = ((k % 2 : Nat) : Int) := by
        rw [Int.tmod_eq_emod_of_nonneg (by omega)]; omega
      have m1 := fun lk H' => r1_Mul lk H' c x (by omega) (by omega)
      have m2 := fun lk H' => r1_Mul lk H' x x (by omega) (by omega)
      have hkk : k = 2 * (k / 2) + k % 2 := by omega
      by_cases ho : k % 2 = 1
      · have f2 : (((k % 2 : Nat) : Int) = 1) = True := eq_true (by omega)
        simp -dsimp only [go_sem, g0, g1, g5, f1, e1, e2, e3, f2, m1, m2]
        refine next (c * x, x * x, k / 2) (by show k / 2 < k; omega) ⟨rfl, ?_, Nat.mul_pos hc hx, Nat.mul_pos hx hx, by simp only []; omega, by simp only []; omega, rfl, rfl, rfl⟩
        simp only []
        rw [← hp]
        conv => rhs; rw [hkk, ho, Nat.pow_succ, Nat.pow_mul]
        rw [Nat.pow_two]
        rw [Nat.mul_comm ((x * x) ^ (k / 2)) x, Nat.mul_assoc]
      · have f2 : (((k % 2 : Nat) : Int) = 1) = False := eq_false (by omega)
        simp -dsimp only [go_sem, g0, g1, g5, f1, e1, e2, e3, f2, m1, m2]
        refine next (c, x * x, k / 2) (by show k / 2 < k; omega) ⟨rfl, ?_, hc, Nat.mul_pos hx hx, by simp only []; omega, by simp only []; omega, rfl, rfl, g5⟩
        simp only []
        rw [← hp]
        conv => rhs; rw [hkk, show k % 2 = 0 by omega, Nat.add_zero, Nat.pow_mul]
        rw [Nat.pow_two]
    · have f1 : (0 < (k : Int)) = False := eq_false (by omega)
      have hk0 : k = 0 := by omega
      subst hk0
      rw [Nat.pow_zero, Nat.mul_one] at hp
      rw [hp] at g5
      simp -dsimp only [go_sem, g1, g5, f1]
theorem r2_Pow (lk : Nat) (H : Heap) (X K : Nat) (hX : 1 ≤ X) (hK : K ≤ 1000000) (hl : (bytes (X ^ K)).length < 10000000) (hl1 : (bytes X).length < 10000000) : gcall Tryz.prog md lk 17 [vI (X : Int), .int .i64 (K : Int)] H = some (vI ((X ^ K : Nat) : Int), H) := by
  refine gcall_val rfl Tryz.func17 rfl rfl ?_
  have k1 := fun lk H' => r1_Pow lk H' X K hX hK hl hl1
  have f1 : decide ((X : Int) < 0) = false := decide_eq_false (by omega)
  have f2 : (X : Int).natAbs = X := Int.natAbs_natCast X
  have e1 : sg false (X ^ K) = ((X ^ K : Nat) : Int) := rfl
  simp -dsimp only [go_sem, f1, f2, k1, r2_Make, e1]
theorem r2_Neg (lk : Nat) (H : Heap) (z : Int) : gcall Tryz.prog md lk 101 [vI z] H = some (vI (-z), H) := by
  refine gcall_val rfl Tryz.func101 rfl rfl ?_
  simp -dsimp only [go_sem, r2_Make, sg_neg, sg_self]
theorem r3_Neg (lk : Nat) (H : Heap) (q : Rat) : gcall Tryz.prog md lk 25 [vR q] H = some (vR (-q), H) := by
  refine gcall_val rfl Tryz.func25 rfl rfl ?_
  simp -dsimp only [go_sem, r2_Neg]
  exact vR_mk _ _ _ (Rat.neg_num q) (Rat.neg_den q)
theorem r3_Whole (lk : Nat) (H : Heap) (z : Int) : gcall Tryz.prog md lk 97 [vI z] H = some (vR (z : Rat), H) := by
  refine gcall_val rfl Tryz.func97 rfl rfl ?_
  have one : [1] = bytes 1 := bytes_one.symm
  simp -dsimp only [go_sem, one]
  exact vR_mk _ _ _ rfl rfl
theorem r3_Add (lk : Nat) (H : Heap) (a b : Rat) (h1 : (bytes a.num.natAbs).length < 1000000) (h2 : (bytes b.num.natAbs).length < 1000000) (h3 : (bytes a.den).length < 1000000) (h4 : (bytes b.den).length < 1000000) :
    gcall Tryz.prog md lk 22 [vR a, vR b] H = some (vR (a + b), H) := by
  refine gcall_val rfl Tryz.func22 rfl rfl ?_
  have one : [1] = bytes 1 := bytes_one.symm
  have k1 := fun lk H' => r2_Mul lk H' a.num b.den (by omega) (by rw [Int.natAbs_natCast]; omega)
  have k2 := fun lk H' => r2_Mul lk H' b.num a.den (by omega) (by rw [Int.natAbs_natCast]; omega)
  have k3 := fun lk H' => r2_Mul lk H' (a.den : Int) (b.den : Int) (by rw [Int.natAbs_natCast]; omega) (by rw [Int.natAbs_natCast]; omega)
  have l1 := bl_mul a.num.natAbs b.den
  have l2 := bl_mul b.num.natAbs a.den
  have l3 := bl_mul a.den b.den
  have n1 : (a.num * (b.den : Int)).natAbs = a.num.natAbs * b.den := by rw [Int.natAbs_mul, Int.natAbs_natCast]
  have n2 : (b.num * (a.den : Int)).natAbs = b.num.natAbs * a.den := by rw [Int.natAbs_mul, Int.natAbs_natCast]
  have n3 : ((a.den : Int) * (b.den : Int)).natAbs = a.den * b.den := by rw [Int.natAbs_mul, Int.natAbs_natCast, Int.natAbs_natCast]
  have l4 := bl_add (a.num.natAbs * b.den) (b.num.natAbs * a.den)
  have l5 : (bytes ((a.num * (b.den : Int) + b.num * (a.den : Int)).natAbs)).length ≤ (bytes (a.num.natAbs * b.den + b.num.natAbs * a.den)).length := by
    apply bl_mono
    have := Int.natAbs_add_le (a.num * (b.den : Int)) (b.num * (a.den : Int))
    omega
  have k4 := fun lk H' => r2_Add lk H' (a.num * (b.den : Int)) (b.num * (a.den : Int)) (by rw [n1]; omega) (by rw [n2]; omega)
  have d1 := a.den_nz
  have d2 := b.den_nz
  have hd : ((a.den : Int) * (b.den : Int)) ≠ 0 := by
    intro h
    rcases Int.mul_eq_zero.1 h with h | h <;> omega
  have k5 := fun lk H' => r3_Make lk H' (a.num * (b.den : Int) + b.num * (a.den : Int)) ((a.den : Int) * (b.den : Int)) hd (by omega) (by rw [n3]; omega)
  have hab : Rat.divInt (a.num * (b.den : Int) + b.num * (a.den : Int)) ((a.den : Int) * (b.den : Int)) = a + b := by
    conv => rhs; rw [← Rat.num_divInt_den a, ← Rat.num_divInt_den b]
    rw [Rat.divInt_add_divInt _ _ (by omega) (by omega)]
  rw [hab] at k5
  have k6 := fun lk H' => r2_Add lk H' a.num b.num (by omega) (by omega)
  by_cases h : a.den = 1 ∧ b.den = 1
  · obtain ⟨e1, e2⟩ := h
    have f1 : (a.den = 1) = True := eq_true e1
    have f2 : (b.den = 1) = True := eq_true e2
    have hs : ((a.num + b.num : Int) : Rat) = a + b := by
      rw [Rat.intCast_add]
      have w : ∀ q : Rat, q.den = 1 → ((q.num : Int) : Rat) = q := fun q h => Rat.ext rfl h.symm
      rw [w a e1, w b e2]
    have k7 := fun lk H' => r3_Whole lk H' (a.num + b.num)
    rw [hs] at k7
    simp -dsimp only [go_sem, one, bytes_inj, f1, f2, k6, k7]
  · by_cases e1 : a.den = 1
    · have f1 : (a.den = 1) = True := eq_true e1
      have f2 : (b.den = 1) = False := eq_false (fun e2 => h ⟨e1, e2⟩)
      simp -dsimp only [go_sem, one, bytes_inj, f1, f2, r3_denominator, k1, k2, k3, k4, k5]
    · have f1 : (a.den = 1) = False := eq_false e1
      simp -dsimp only [go_sem, one, bytes_inj, f1, r3_denominator, k1, k2, k3, k4, k5]
theorem r3_FitsS (lk : Nat) (H : Heap) (q : Rat) (h1 : (bytes q.num.natAbs).length ≤ 1024) (h2 : (bytes q.den).length ≤ 1024) : gcall Tryz.prog md lk 95 [vR q] H = some (.int .i64 0, H) := by
  refine gcall_val rfl Tryz.func95 rfl rfl ?_
  have k1 : ∀ lk H', gcall Tryz.prog md lk 170 [vI q.num] H' = some (.int .i64 0, H') := fun lk H' => by
    have := r2_Fits lk H' (ofI q.num)
    rw [if_neg (by show ¬ 1024 < (bytes q.num.natAbs).length; omega)] at this; exact this
  have k2 : ∀ lk H', gcall Tryz.prog md lk 171 [.string (mkS (bytes q.den))] H' = some (.int .i64 0, H') := fun lk H' => by
    rw [r1_Fits, if_neg (by omega)]
  simp -dsimp only [go_sem, k1, k2]
theorem r3_CheckS (lk : Nat) (H : Heap) (q : Rat) (h1 : (bytes q.num.natAbs).length ≤ 1024) (h2 : (bytes q.den).length ≤ 1024) : gcall Tryz.prog md lk 21 [vR q] H = some (.int .i64 0, H) := by
  refine gcall_val rfl Tryz.func21 rfl rfl ?_
  have hd : q.den ≠ 0 := q.den_nz
  have hdn : bytes q.den = [] ↔ False := by rw [bytes_eq_nil]; simp [hd]
  have k1 : ∀ lk H', gcall Tryz.prog md lk 93 [vI q.num] H' = some (.bool true, H') := fun lk H' => by
    have := r2_Valid lk H' (ofI q.num)
    have e : (decide ((ofI q.num).abs.head? ≠ some 0) && (!(ofI q.num).neg || decide ((ofI q.num).abs ≠ []))) = true := by
      unfold ofI
      simp only [Bool.and_eq_true, decide_eq_true_eq, Bool.or_eq_true, Bool.not_eq_true', decide_eq_false_iff_not, ne_eq]
      refine ⟨fun h => bytes_ne_zero _ 0 h rfl, ?_⟩
      by_cases h : q.num < 0
      · right; rw [bytes_eq_nil]; omega
      · left; omega
    rw [e] at this; exact this
  have k2 : ∀ lk H', gcall Tryz.prog md lk 94 [.string (mkS (bytes q.den))] H' = some (.bool true, H') := fun lk H' => by
    rw [r1_Valid, decide_eq_true]
    intro h; exact bytes_ne_zero _ _ h rfl
  have k3 := fun lk H' => r1_Gcd lk H' q.num.natAbs q.den (by omega) (by omega)
  have hg : Nat.gcd q.num.natAbs q.den = 1 := q.reduced
  rw [hg] at k3
  have one : [1] = bytes 1 := bytes_one.symm
  have k4 := fun lk H' => r3_FitsS lk H' q h1 h2
  simp -dsimp only [go_sem, k1, k2, hdn, k3, k4, one]
end Gx
end
section
/- Newton polygons of polynomials that are scaled, stretched and reversed. -/
set_option autoImplicit false
namespace Gx
theorem vp_mul_pow {q n : Nat} (hq : 2 ≤ q) (hn : n ≠ 0) (k : Nat) : vp q (n * q ^ k) = vp q n + k := by
  induction k with
  | zero => simp
  | succ k ih =>
    have h1 : n * q ^ (k + 1) = n * q ^ k * q := by rw [Nat.pow_succ, Nat.mul_assoc]
    have h0 : n * q ^ k ≠ 0 := Nat.mul_ne_zero hn (Nat.ne_of_gt (Nat.pow_pos (by omega)))
    rw [h1, vp_step hq (Nat.mul_ne_zero h0 (by omega)) (Nat.mul_mod_left _ _), Nat.mul_div_cancel _ (by omega), ih]; omega
theorem mul_pow_zero {q : Nat} (hq : 2 ≤ q) (z : Int) (k : Nat) : z * ((q ^ k : Nat) : Int) = 0 ↔ z = 0 := by
  have : ((q ^ k : Nat) : Int) ≠ 0 := by
    have := Nat.pow_pos (n := k) (show 0 < q by omega)
    omega
  constructor
  · intro h
    rcases Int.mul_eq_zero.1 h with h | h
    · exact h
    · exact absurd h this
  · rintro rfl; simp
theorem vp_mulI {q : Nat} (hq : 2 ≤ q) {z : Int} (hz : z ≠ 0) (k : Nat) : vp q (z * ((q ^ k : Nat) : Int)).natAbs = vp q z.natAbs + k := by
  rw [Int.natAbs_mul, Int.natAbs_natCast, vp_mul_pow hq (by omega)]
def shY (k : Nat) (v : Vtx) : Vtx := ⟨v.x, v.y + k⟩
def stY (v : Vtx) : Vtx := ⟨v.x, v.y + v.x⟩
theorem pts_scaled {q : Nat} (hq : 2 ≤ q) (k i : Nat) (g : List Int) : ptsFrom q i (g.map fun z => z * ((q ^ k : Nat) : Int)) = (ptsFrom q i g).map (shY k) := by
  induction g generalizing i with
  | nil => rfl
  | cons z r ih =>
    simp only [List.map_cons, ptsFrom, ih, mul_pow_zero hq]
    by_cases hz : z = 0
    · rw [if_pos hz, if_pos hz]
    · rw [if_neg hz, if_neg hz, List.map_cons, vp_mulI hq hz]
      congr 1
def strF (q : Nat) : Nat → List Int → List Int
  | _, [] => []
  | i, z :: r => z * ((q ^ i : Nat) : Int) :: strF q (i + 1) r
theorem strF_len (q i : Nat) (g : List Int) : (strF q i g).length = g.length := by
  induction g generalizing i with
  | nil => rfl
  | cons z r ih => simp [strF, ih]
theorem strF_app (q i : Nat) (f g : List Int) : strF q i (f ++ g) = strF q i f ++ strF q (i + f.length) g := by
  induction f generalizing i with
  | nil => simp [strF]
  | cons z r ih =>
    simp only [List.cons_append, strF, ih, List.length_cons]
    rw [show i + 1 + r.length = i + (r.length + 1) by omega]
theorem strF_get (q i : Nat) (g : List Int) (j : Nat) (h : j < g.length) : (strF q i g)[j]'(by rw [strF_len]; exact h) = g[j] * ((q ^ (i + j) : Nat) : Int) := by
  induction g generalizing i j with
  | nil => simp at h
  | cons z r ih =>
    cases j with
    | zero => simp [strF]
    | succ j =>
      simp only [strF, List.getElem_cons_succ]
      rw [ih (i + 1) j (by simpa using h), show i + 1 + j = i + (j + 1) by omega]
theorem pts_stretched {q : Nat} (hq : 2 ≤ q) (i : Nat) (g : List Int) : ptsFrom q i (strF q i g) = (ptsFrom q i g).map stY := by
  induction g generalizing i with
  | nil => rfl
  | cons z r ih =>
    simp only [strF, ptsFrom, ih, mul_pow_zero hq]
    by_cases hz : z = 0
    · rw [if_pos hz, if_pos hz]
    · rw [if_neg hz, if_neg hz, List.map_cons, vp_mulI hq hz]
      congr 1
/-- A map that keeps who lies above whom. -/
theorem popTo_map (φ : Vtx → Vtx) (hφ : ∀ a b c, overB (φ a) (φ b) (φ c) = overB a b c) (out : List Vtx) (x : Vtx) (k : Nat) (h : k ≤ out.length) : popTo (out.map φ) (φ x) k = popTo out x k := by
  induction k with
  | zero => rfl
  | succ k ih =>
    cases k with
    | zero => rfl
    | succ k =>
      have h1 : k < out.length := by omega
      have h2 : k + 1 < out.length := by omega
      unfold popTo
      rw [ih (by omega)]
      simp only [List.getD, List.getElem?_map, List.getElem?_eq_getElem h1, List.getElem?_eq_getElem h2, Option.map_some, Option.getD_some, hφ]
theorem hull_map (φ : Vtx → Vtx) (hφ : ∀ a b c, overB (φ a) (φ b) (φ c) = overB a b c) (l : List Vtx) : hull (l.map φ) = (hull l).map φ := by
  have : ∀ (l out : List Vtx), (l.map φ).foldl hullStep (out.map φ) = (l.foldl hullStep out).map φ := by
    intro l
    induction l with
    | nil => intro out; rfl
    | cons x r ih =>
      intro out
      simp only [List.map_cons, List.foldl_cons]
      rw [← ih]
      congr 1
      unfold hullStep
      rw [List.length_map, popTo_map φ hφ out x _ (Nat.le_refl _), List.map_append, List.map_take]; rfl
  exact this l []
theorem over_shY (k : Nat) (a b c : Vtx) : overB (shY k a) (shY k b) (shY k c) = overB a b c := by
  unfold overB shY
  apply decide_eq_decide.2
  simp only []
  rw [show c.y + (k : Int) - (a.y + k) = c.y - a.y by omega, show b.y + (k : Int) - (a.y + k) = b.y - a.y by omega]
theorem over_stY (a b c : Vtx) : overB (stY a) (stY b) (stY c) = overB a b c := by
  rw [overB_cr, overB_cr]
  apply decide_eq_decide.2
  have : cr (stY a) (stY b) (stY c) = cr a b c := by unfold cr dd stY; grind
  rw [this]
theorem sides_shY (k : Nat) (l : List Vtx) : sidesOf (l.map (shY k)) = sidesOf l := by
  unfold sidesOf sidesTo
  rw [List.length_map]
  apply List.map_congr_left
  intro j hj
  rw [List.mem_range] at hj
  have h1 : j < l.length := by omega
  have h2 : j + 1 < l.length := by omega
  simp only [List.getD, List.getElem?_map, List.getElem?_eq_getElem h1, List.getElem?_eq_getElem h2, Option.map_some, Option.getD_some, sideOf, shY]
  rw [show l[j + 1].y + (k : Int) - (l[j].y + k) = l[j + 1].y - l[j].y by omega]
theorem divInt_one_add {n d : Int} (hd : d ≠ 0) : Rat.divInt (n + d) d = Rat.divInt n d + 1 := by
  have h : (1 : Rat) = Rat.divInt 1 1 := rfl
  rw [h, Rat.divInt_add_divInt _ _ hd (by decide), Int.mul_one, Int.mul_one, Int.one_mul]
theorem sides_stY (l : List Vtx) (hx : ∀ i (h : i + 1 < l.length), l[i].x < l[i + 1].x) : sidesOf (l.map stY) = (sidesOf l).map fun s => ⟨s.s + 1, s.n⟩ := by
  unfold sidesOf sidesTo
  rw [List.length_map, List.map_map]
  apply List.map_congr_left
  intro j hj
  rw [List.mem_range] at hj
  have h1 : j < l.length := by omega
  have h2 : j + 1 < l.length := by omega
  have := hx j h2
  simp only [Function.comp, List.getD, List.getElem?_map, List.getElem?_eq_getElem h1, List.getElem?_eq_getElem h2, Option.map_some, Option.getD_some, sideOf, stY]
  rw [show l[j + 1].y + l[j + 1].x - (l[j].y + l[j].x) = l[j + 1].y - l[j].y + (l[j + 1].x - l[j].x) by omega, divInt_one_add (by omega)]
/-- The mirror. -/
def fl (n : Nat) (v : Vtx) : Vtx := ⟨(n : Int) - 1 - v.x, v.y⟩
theorem ptsFrom_shift (q i : Nat) (g : List Int) : ptsFrom q i g = (ptsFrom q 0 g).map fun v => ⟨v.x + i, v.y⟩ := by
  have : ∀ (i j : Nat) (g : List Int), ptsFrom q (i + j) g = (ptsFrom q j g).map fun v => ⟨v.x + i, v.y⟩ := by
    intro i j g
    induction g generalizing j with
    | nil => rfl
    | cons z r ih =>
      simp only [ptsFrom]
      rw [show i + j + 1 = i + (j + 1) by omega, ih]
      by_cases hz : z = 0
      · rw [if_pos hz, if_pos hz]
      · rw [if_neg hz, if_neg hz, List.map_cons]
        congr 1
        have : ((i + j : Nat) : Int) = (j : Int) + (i : Int) := by omega
        rw [this]
  exact this i 0 g
theorem pts_rev (q : Nat) (g : List Int) : pts q g.reverse = ((pts q g).map (fl g.length)).reverse := by
  unfold pts
  induction g with
  | nil => rfl
  | cons z r ih =>
    rw [List.reverse_cons, ptsFrom_app, ih, List.length_reverse, Nat.zero_add]
    have e : ptsFrom q 0 (z :: r) = (if z = 0 then [] else [⟨0, vp q z.natAbs⟩]) ++ ptsFrom q 1 r := by
      simp only [ptsFrom]
      split <;> simp
    rw [e, ptsFrom_shift q 1 r, List.map_append, List.reverse_append, List.map_map]
    congr 1
    · congr 1
      apply List.map_congr_left
      intro v _
      unfold fl
      simp only [Function.comp, List.length_cons]
      congr 1
      omega
    · simp only [ptsFrom]
      by_cases hz : z = 0
      · rw [if_pos hz, if_pos hz]; rfl
      · rw [if_neg hz, if_neg hz]
        simp only [List.map_cons, List.map_nil, List.reverse_singleton, fl, List.length_cons]
        congr 2
        omega
theorem fl_fl (n : Nat) (v : Vtx) : fl n (fl n v) = v := by
  cases v with
  | mk x y => simp only [fl]; congr 1; omega
theorem fl_inj {n : Nat} {a b : Vtx} (h : fl n a = fl n b) : a = b := by rw [← fl_fl n a, h, fl_fl]
theorem cr_fl (n : Nat) (a b c : Vtx) : cr (fl n c) (fl n b) (fl n a) = cr a b c := by unfold cr dd fl; grind
theorem inc_fl {l : List Vtx} (n : Nat) (h : l.Pairwise (fun a b => a.x < b.x)) : ((l.map (fl n)).reverse).Pairwise (fun a b => a.x < b.x) := by
  rw [List.pairwise_reverse, List.pairwise_map]
  refine h.imp ?_
  intro a b h
  show (n : Int) - 1 - b.x < (n : Int) - 1 - a.x
  omega
theorem hull_rev (n : Nat) {l : List Vtx} (h : l.Pairwise (fun a b => a.x < b.x)) : hull ((l.map (fl n)).reverse) = ((hull l).map (fl n)).reverse := by
  refine inc_ext ((inc_fl n h).sublist (hull_sub _)) (inc_fl n (h.sublist (hull_sub _))) fun v => ?_
  have hm : ∀ (l : List Vtx) (v : Vtx), v ∈ (l.map (fl n)).reverse ↔ fl n v ∈ l := by
    intro l v
    rw [List.mem_reverse, List.mem_map]
    constructor
    · rintro ⟨a, ha, rfl⟩; rw [fl_fl]; exact ha
    · intro hv; exact ⟨fl n v, hv, fl_fl n v⟩
  rw [hull_mem_iff (inc_fl n h), hm, hm, hull_mem_iff h]
  refine and_congr_right fun _ => ?_
  unfold Low
  constructor
  · intro hl a ha c hc h1 h2
    have e1 : (fl n v).x = (n : Int) - 1 - v.x := rfl
    have k := hl (fl n c) (by rw [hm, fl_fl]; exact hc) (fl n a) (by rw [hm, fl_fl]; exact ha) (by show (n : Int) - 1 - c.x < v.x; omega) (by show v.x < (n : Int) - 1 - a.x; omega)
    have := cr_fl n a (fl n v) c
    rw [fl_fl] at this
    rw [← this]; exact k
  · intro hl a ha c hc h1 h2
    rw [hm] at ha hc
    have k := hl _ hc _ ha (by show (n : Int) - 1 - c.x < (n : Int) - 1 - v.x; omega) (by show (n : Int) - 1 - v.x < (n : Int) - 1 - a.x; omega)
    rw [cr_fl] at k
    exact k
theorem sides_rev (n : Nat) (l : List Vtx) (k : Nat) (h : k < (sidesOf l).length) : ∃ h2 : k < (sidesOf ((l.map (fl n)).reverse)).length, ∃ h3 : (sidesOf l).length - 1 - k < (sidesOf l).length,
    (sidesOf ((l.map (fl n)).reverse))[k].n = (sidesOf l)[(sidesOf l).length - 1 - k].n ∧ (sidesOf ((l.map (fl n)).reverse))[k].s = -(sidesOf l)[(sidesOf l).length - 1 - k].s := by
  have hlen : ∀ l : List Vtx, (sidesOf l).length = l.length - 1 := fun l => by unfold sidesOf; rw [sidesTo_len]
  have hl := hlen l
  have hl2 := hlen ((l.map (fl n)).reverse)
  rw [List.length_reverse, List.length_map] at hl2
  refine ⟨by omega, by omega, ?_⟩
  rw [sides_get _ k (by rw [List.length_reverse, List.length_map]; omega), sides_get l ((sidesOf l).length - 1 - k) (by omega)]
  simp only [List.getElem_reverse, List.getElem_map, List.length_map, sideOf, fl, hl]
  have e1 : l.length - 1 - (k + 1) = l.length - 1 - 1 - k := by omega
  have e2 : l.length - 1 - k = l.length - 1 - 1 - k + 1 := by omega
  have g1 : l[l.length - 1 - (k + 1)]'(by omega) = l[l.length - 1 - 1 - k]'(by omega) := by congr 1
  have g2 : l[l.length - 1 - k]'(by omega) = l[l.length - 1 - 1 - k + 1]'(by omega) := by congr 1
  rw [g1, g2]
  refine ⟨by omega, ?_⟩
  rw [Rat.neg_divInt]
  congr 1 <;> omega
end Gx
end
