/- Lemmas: plain facts, or contracts of functions that are reached, in the interpreter without world and addresses. -/
import Derived.Test.YtchpchjcghongaaGreatGz15
import Derived.Test.YtchpchjcghongaaGreatGz16
set_option linter.all false
set_option linter.unusedVariables false
set_option linter.unusedSimpArgs false
set_option linter.unnecessarySimpa false
set_option linter.deprecated false
section
set_option autoImplicit false
namespace Gx
open Go Go.Proofs
set_option maxRecDepth 10000
def sideOf (a b : Vtx) : Sd := ⟨Rat.divInt (b.y - a.y) (b.x - a.x), b.x - a.x⟩
def sidesTo (l : List Vtx) (i : Nat) : List Sd := (List.range i).map fun j => sideOf (l.getD j ⟨0, 0⟩) (l.getD (j + 1) ⟨0, 0⟩)
/-- The sides between points. -/
def sidesOf (l : List Vtx) : List Sd := sidesTo l (l.length - 1)
theorem sidesTo_succ (l : List Vtx) (i : Nat) : sidesTo l (i + 1) = sidesTo l i ++ [sideOf (l.getD i ⟨0, 0⟩) (l.getD (i + 1) ⟨0, 0⟩)] := by
  unfold sidesTo; rw [List.range_succ, List.map_append]; rfl
theorem sidesTo_len (l : List Vtx) (i : Nat) : (sidesTo l i).length = i := by simp [sidesTo]
theorem p_side1 (lk : Nat) (H : Heap) (a b : Vtx) (ha : SmV a) (hb : SmV b) (hx : a.x < b.x) : gcall Tryz.prog md lk 166 [vV a, vV b] H = some (vR (Rat.divInt (b.y - a.y) (b.x - a.x)), H) := by
  refine gcall_val rfl Tryz.func166 rfl rfl ?_
  obtain ⟨a1, a2, a3, a4⟩ := ha
  obtain ⟨b1, b2, b3, b4⟩ := hb
  have e1 : IntKind.i64.wrap (b.y - a.y) = b.y - a.y := w64 (by omega) (by omega)
  have e2 : IntKind.i64.wrap (b.x - a.x) = b.x - a.x := w64 (by omega) (by omega)
  have k := fun lk H' => c_Of lk H' (b.y - a.y) (b.x - a.x) (by omega) (by omega) (by omega)
  simp -dsimp only [go_sem, e1, e2, k]
theorem p_sides (lk : Nat) (H : Heap) (a : Option Addr) (l : List Vtx) (n : Nat) (hn : n = l.length) (hl : n ≤ 100000) (hv : ∀ v ∈ l, SmV v) (hx : ∀ i (h : i + 1 < l.length), l[i].x < l[i + 1].x) (hs : SL H a l) :
    gcall Tryz.prog md lk 90 [.slice a n n] H = some (.slice (mkA H (sidesOf l)) (sidesOf l).length (sidesOf l).length, H ++ mkN (sidesOf l)) := by
  subst hn
  refine gcall_own rfl Tryz.func90 rfl ?_
  simp -dsimp only [go_sem]
  refine r_loop (m := fun (s : Nat × Option Addr) => l.length - s.1) (I := fun s σ H' => (s.1 = 0 ∨ s.1 < l.length) ∧ Ext H H' ∧ Own H.length H' s.2 (sidesTo l s.1) ∧ (s.2 = none ↔ sidesTo l s.1 = []) ∧ σ 0 = .slice a l.length l.length ∧ σ 3 = .func (.func 166) #[] #[] ∧ σ 4 = .slice s.2 s.1 s.1 ∧ σ 5 = .int .i64 ((s.1 + 1 : Nat) : Int)) (0, none) ?_ ?_
  · exact ⟨.inl rfl, Ext.refl _, Own.nil, by simp [sidesTo], rfl, rfl, rfl, rfl⟩
  · rintro ⟨i, a2⟩ σ H' ⟨h1, hE, hO, hN, g0, g3, g4, g5⟩
    simp only [] at h1 hO hN g4 g5
    by_cases hi : i + 1 < l.length
    · have f1 : (((i + 1 : Nat) : Int) < ((l.length : Nat) : Int)) = True := eq_true (by omega)
      have hi0 : i < l.length := by omega
      obtain ⟨b, o, B, rfl, hB, hz, hg⟩ := hs.vtx i hi0
      obtain ⟨b2, o2, B2, heq, hB2, hz2, hg2⟩ := hs.vtx (i + 1) hi
      cases heq
      rw [hB] at hB2
      cases hB2
      have hB' := hE.live hB
      have hlo := hE.le
      have e1 : IntKind.i64.wrap (((i + 1 : Nat) : Int) - 1) = (i : Int) := by rw [w64 (by omega) (by omega)]; omega
      have e7 : IntKind.i64.wrap (((i + 1 : Nat) : Int) + 1) = ((i + 1 + 1 : Nat) : Int) := by rw [w64 (by omega) (by omega)]; omega
      have v1 := hv _ (List.getElem_mem hi0)
      have v2 := hv _ (List.getElem_mem hi)
      have hlt := hx i hi
      have k := fun lk H' => p_side1 lk H' l[i] l[i + 1] v1 v2 hlt
      have hsucc := sidesTo_succ l i
      simp only [List.getD, List.getElem?_eq_getElem hi0, List.getElem?_eq_getElem hi, Option.getD_some] at hsucc
      have e3 : IntKind.i64.wrap (l[i + 1].x - l[i].x) = l[i + 1].x - l[i].x := by
        obtain ⟨x1, x2, _⟩ := v1
        obtain ⟨y1, y2, _⟩ := v2
        exact w64 (by omega) (by omega)
      have hap := fun t t2 => ap_own (P := Tryz.prog) (lk := H.length) (t := t) (t2 := t2) hO (Nat.le_refl _) (sidesTo_len l i).symm (Enc.enc (sideOf l[i] l[i + 1])) 4 rfl rfl
      have hO2 := own_ap (lo := H.length) (H := H') (a := a2) (l := sidesTo l i) (sideOf l[i] l[i + 1]) [⟨Enc.enc (sideOf l[i] l[i + 1]), 4, false⟩] (by simp; omega)
      have hE2 : Ext H (kill (H' ++ [⟨Enc.enc (sideOf l[i] l[i + 1]), 4, false⟩]) a2) := (hO.more _).kill (hE.more _)
      rw [← hsucc] at hO2
      have henc : Enc.enc (sideOf l[i] l[i + 1]) = [Value.bool (decide ((Rat.divInt (l[i + 1].y - l[i].y) (l[i + 1].x - l[i].x)).num < 0)), .string (mkS (bytes (Rat.divInt (l[i + 1].y - l[i].y) (l[i + 1].x - l[i].x)).num.natAbs)), .string (mkS (bytes (Rat.divInt (l[i + 1].y - l[i].y) (l[i + 1].x - l[i].x)).den)), .int .i64 (l[i + 1].x - l[i].x)] := rfl
      rw [henc] at hap hO2 hE2
      have hil : i < l.length := hi0
      have hc1 : B.c[o + i * 2]? = some (.int .i64 l[i].x) := isub_get hg 0 (by omega)
      have hc2 : B.c[o + (i + 1) * 2]? = some (.int .i64 l[i + 1].x) := isub_get hg2 0 (by omega)
      simp -dsimp only [go_sem, g0, g3, g4, g5, f1, e1, e3, e7, hB', hz, hg, hg2, hi, hil, k, reps, hap, hlo, hc1, hc2]
      exact ⟨by omega, next (i + 1, some ⟨H'.length + 1, 0, none⟩) (by show l.length - (i + 1) < l.length - i; omega) ⟨.inr hi, hE2.more _, hO2, by simp [hsucc], g0, g3, rfl, rfl⟩⟩
    · have f1 : (((i + 1 : Nat) : Int) < ((l.length : Nat) : Int)) = False := eq_false (by omega)
      have hil : i = l.length - 1 := by omega
      subst hil
      have hc := compV_mk hO (sidesTo_len l _).symm hN (cells_kok (fun x => rfl) _)
      simp -dsimp only [go_sem, g0, g3, g4, g5, f1]
      rw [hc]
      unfold sidesOf
      rw [sidesTo_len]
/-- An integer, as it comes. -/
def ofI (z : Int) : RI := ⟨decide (z < 0), bytes z.natAbs⟩
theorem cells_ofI (f : List Int) : cells (f.map ofI) = cells f := by
  induction f with
  | nil => rfl
  | cons z r ih => rw [List.map_cons, cells_cons, cells_cons, ih]; rfl
theorem SL.ofI {H : Heap} {a : Option Addr} {f : List Int} (h : SL H a (f.map ofI)) : SL H a f := by
  rcases h with ⟨h1, h2⟩ | ⟨b, o, B, h1, h2, h3, h4, h5⟩
  · exact .inl ⟨h1, by simpa using h2⟩
  · rw [cells_ofI, List.length_map] at h4
    rw [List.length_map] at h5
    exact .inr ⟨b, o, B, h1, h2, h3, h4, h5⟩
theorem SL.toI {H : Heap} {a : Option Addr} {f : List Int} (h : SL H a f) : SL H a (f.map Gx.ofI) := by
  rcases h with ⟨h1, h2⟩ | ⟨b, o, B, h1, h2, h3, h4, h5⟩
  · exact .inl ⟨h1, by simpa using h2⟩
  · exact .inr ⟨b, o, B, h1, h2, h3, by rw [cells_ofI, List.length_map]; exact h4, by rw [List.length_map]; exact h5⟩
/-- A polynomial without an error. -/
structure OkP (f : List Int) : Prop where
  len : f.length ≤ 65
  small : ∀ z ∈ f, (bytes z.natAbs).length ≤ 1024
  last : ∀ h : 0 < f.length, f[f.length - 1] ≠ 0
theorem ckI_ofI (z : Int) : ckI (ofI z) = if 1024 < (bytes z.natAbs).length then 4 else 0 := by
  unfold ckI ofI
  simp only []
  rw [if_neg]
  rintro (h | ⟨h1, h2⟩)
  · exact bytes_ne_zero z.natAbs 0 h rfl
  · rw [bytes_eq_nil] at h2
    have : z = 0 := by omega
    subst this; simp at h1
theorem ckFirst_ofI {f : List Int} (h : ∀ z ∈ f, (bytes z.natAbs).length ≤ 1024) : ckFirst (f.map ofI) = 0 := by
  induction f with
  | nil => rfl
  | cons z r ih =>
    have h0 : ckI (ofI z) = 0 := by rw [ckI_ofI, if_neg (by have := h z (by simp); omega)]
    rw [List.map_cons, ckFirst, if_neg (fun h => h h0)]
    exact ih (fun z hz => h z (List.mem_cons_of_mem _ hz))
theorem ckL_ofI {f : List Int} (h : OkP f) : ckL (f.map ofI) = 0 := by
  have h1 := h.len
  unfold ckL
  rw [List.length_map, if_neg (by omega), ckFirst_ofI h.small, if_neg (by simp)]
  rw [if_neg]
  by_cases h0 : 0 < f.length
  · rw [lastZ_eq _ (by rw [List.length_map]; exact h0)]
    have := h.last h0
    simp only [List.length_map, List.getElem_map, decide_eq_true_eq]
    intro h3
    change bytes (f[f.length - 1]).natAbs = [] at h3
    rw [bytes_eq_nil] at h3; omega
  · have : f = [] := List.length_eq_zero_iff.1 (by omega)
    subst this; simp [lastZ]
/-- The error of a polynomial and a number. -/
def nck (f : List RI) (p : Int) : Int := if ckL f ≠ 0 then ckL f else if ¬ (2 ≤ p ∧ p ≤ 65521 ∧ Pr p.toNat) then 7 else if f.length = 0 then 6 else 0
theorem p_check (lk : Nat) (H : Heap) (a : Option Addr) (f : List RI) (n : Nat) (p : Int) (hn : n = f.length) (hl : n ≤ 9223372036854775807) (hs : SL H a f) : gcall Tryz.prog md lk 89 [.slice a n n, .int .i64 p] H = some (.int .i64 (nck f p), H) := by
  refine gcall_val rfl Tryz.func89 rfl rfl ?_
  have k1 := fun lk => p_henselCheck lk H a f n hn hl hs
  have k2 := fun lk => p_polyCheck lk H p
  unfold nck
  by_cases h1 : ckL f = 0
  · rw [if_neg (fun h => h h1)]
    rw [h1] at k1
    by_cases h2 : 2 ≤ p ∧ p ≤ 65521 ∧ Pr p.toNat
    · rw [if_neg (fun h => h h2)]
      rw [if_pos h2] at k2
      by_cases h3 : f.length = 0
      · have f3 : ((n : Int) = 0) = True := eq_true (by omega)
        rw [if_pos h3]
        simp -dsimp only [go_sem, k1, k2, f3]
      · have f3 : ((n : Int) = 0) = False := eq_false (by omega)
        rw [if_neg h3]
        simp -dsimp only [go_sem, k1, k2, f3]
    · rw [if_pos h2]
      rw [if_neg h2] at k2
      simp -dsimp only [go_sem, k1, k2]
  · rw [if_pos h1]
    have f1 : (ckL f = 0) = False := eq_false h1
    simp -dsimp only [go_sem, k1, f1]
end Gx
end
section
set_option autoImplicit false
namespace Gx
open Go Go.Proofs
set_option maxRecDepth 10000
theorem pts_from (p i : Nat) (f : List Int) : (ptsFrom p i f).Pairwise (fun a b => a.x < b.x) ∧ ∀ v ∈ ptsFrom p i f, (i : Int) ≤ v.x ∧ v.x < (i + f.length : Nat) ∧ ∃ z ∈ f, z ≠ 0 ∧ v.y = vp p z.natAbs := by
  induction f generalizing i with
  | nil => exact ⟨List.Pairwise.nil, fun v hv => by simp [ptsFrom] at hv⟩
  | cons z r ih =>
    obtain ⟨h1, h2⟩ := ih (i + 1)
    unfold ptsFrom
    by_cases h0 : z = 0
    · rw [if_pos h0]
      refine ⟨h1, fun v hv => ?_⟩
      obtain ⟨a, b, w, hw, hc⟩ := h2 v hv
      exact ⟨by omega, by rw [List.length_cons]; omega, w, List.mem_cons_of_mem _ hw, hc⟩
    · rw [if_neg h0]
      refine ⟨List.Pairwise.cons (fun v hv => ?_) h1, fun v hv => ?_⟩
      · obtain ⟨a, b, _⟩ := h2 v hv
        show (i : Int) < v.x
        omega
      · rcases List.mem_cons.1 hv with rfl | hv
        · exact ⟨by show (i : Int) ≤ i; omega, by rw [List.length_cons]; show (i : Int) < _; omega, z, by simp, h0, rfl⟩
        · obtain ⟨a, b, w, hw, hc⟩ := h2 v hv
          exact ⟨by omega, by rw [List.length_cons]; omega, w, List.mem_cons_of_mem _ hw, hc⟩
theorem pts_small {p : Nat} {f : List Int} (hp : 2 ≤ p) (h : OkP f) : ∀ v ∈ pts p f, SmV v := by
  intro v hv
  obtain ⟨a, b, z, hz, h0, hy⟩ := (pts_from p 0 f).2 v hv
  have h1 := h.len
  have h2 := h.small z hz
  have h3 := vp_le hp z.natAbs (by omega)
  exact ⟨by omega, by omega, by omega, by omega⟩
theorem hull_sub (l : List Vtx) : (hull l).Sublist l := by
  have : ∀ (l out pre : List Vtx), out.Sublist pre → (l.foldl hullStep out).Sublist (pre ++ l) := by
    intro l
    induction l with
    | nil => intro out pre h; simpa using h
    | cons x r ih =>
      intro out pre h
      rw [List.foldl_cons]
      have h2 : (hullStep out x).Sublist (pre ++ [x]) := by
        unfold hullStep
        exact List.Sublist.append ((List.take_sublist _ _).trans h) (List.Sublist.refl _)
      have := ih _ _ h2
      rw [List.append_assoc] at this
      exact this
  have := this l [] [] (List.Sublist.refl _)
  exact this
theorem hull_inc {l : List Vtx} (h : l.Pairwise (fun a b => a.x < b.x)) : ∀ i (hi : i + 1 < (hull l).length), (hull l)[i].x < (hull l)[i + 1].x := by
  intro i hi
  have h2 := h.sublist (hull_sub l)
  exact List.pairwise_iff_getElem.1 h2 i (i + 1) (by omega) hi (by omega)
theorem nck_good {g : List Int} {q : Nat} (hg : OkP g) (h1 : 2 ≤ q) (h2 : q ≤ 65521) (h3 : Pr q) (h4 : 0 < g.length) : nck (g.map ofI) (q : Int) = 0 := by
  unfold nck
  rw [if_neg (fun x => x (ckL_ofI hg)), if_neg (fun x => x ⟨by omega, by omega, by rw [Int.toNat_natCast]; exact h3⟩), if_neg (by rw [List.length_map]; omega)]
theorem compV_nilE {H : Heap} {n0 : Nat} {e : Int} : compV H n0 (.tuple #[.slice none 0 0, .int .i64 e]) = some (.tuple #[.slice none 0 0, .int .i64 e], []) := rfl
/-- What a call gives back of a slice of its own and a number. -/
theorem compV_mkE {α : Type} [Enc α] {H H' : Heap} {a : Option Addr} {l : List α} {n : Nat} {e : Int} (h : Own H.length H' a l) (hn : n = l.length) (ha : a = none ↔ l = []) (hk : (cells l).all kok0 = true) :
    compV H' H.length (.tuple #[.slice a n n, .int .i64 e]) = some (.tuple #[.slice (mkA H l) n n, .int .i64 e], mkN l) := by
  subst hn
  by_cases hl : l = []
  · rw [ha.2 hl, hl]; rfl
  · rcases h with ⟨h1, h2⟩ | ⟨b, rfl, h2, h3⟩
    · exact absurd h2 hl
    rw [mkA_ne H hl, mkN_ne hl]
    have e1 : ((lblk l).c.drop 0).take (l.length * (lblk l).sz) = cells l := by
      rw [List.drop_zero, lblk_c, lblk_sz, List.take_of_length_le (by rw [cells_len]; exact Nat.le_refl _)]
    have c1 : compCell H' H.length ([], []) (.slice (some ⟨b, 0, none⟩) l.length l.length) = some (.slice (some ⟨H.length, 0, none⟩) l.length l.length, ([b], [lblk l])) := by
      simp only [compCell, if_neg (Nat.not_lt.2 h2), h3]
      rw [if_pos ⟨trivial, by rw [lblk_c, lblk_sz, cells_len]; omega, rfl, by rw [e1]; exact hk⟩, e1]; rfl
    simp only [compV, compList, comp1, c1, Option.map_some]
    rfl
theorem mkA_none {α : Type} (H : Heap) (l : List α) : mkA H l = none ↔ l = [] := by
  cases l with
  | nil => exact ⟨fun _ => rfl, fun _ => rfl⟩
  | cons x r => exact ⟨fun h => (nomatch h), fun h => (nomatch h)⟩
theorem Own.low {α : Type} [Enc α] {lo lo' : Nat} {H : Heap} {a : Option Addr} {l : List α} (h : Own lo H a l) (hl : lo' ≤ lo) : Own lo' H a l := by
  rcases h with h | ⟨b, h1, h2, h3⟩
  · exact .inl h
  · exact .inr ⟨b, h1, by omega, h3⟩
theorem p_Vertices (lk : Nat) (H : Heap) (a : Option Addr) (f : List RI) (n : Nat) (p : Int) (hn : n = f.length) (hl : n ≤ 9223372036854775807) (hs : SL H a f) :
    (nck f p ≠ 0 → gcall Tryz.prog md lk 27 [.slice a n n, .int .i64 p] H = some (.tuple #[.slice none 0 0, .int .i64 (nck f p)], H)) ∧
    (∀ (g : List Int) (q : Nat), f = g.map ofI → p = (q : Int) → OkP g → 2 ≤ q → q ≤ 65521 → Pr q → 0 < g.length → gcall Tryz.prog md lk 27 [.slice a n n, .int .i64 p] H = some (.tuple #[.slice (mkA H (hull (pts q g))) (hull (pts q g)).length (hull (pts q g)).length, .int .i64 0], H ++ mkN (hull (pts q g)))) := by
  have k1 := fun lk => p_check lk H a f n p hn hl hs
  refine ⟨fun h => ?_, fun g q hf hp hg h2 h3 h4 h5 => ?_⟩
  · have e : H = H ++ [] := (List.append_nil H).symm
    conv => rhs; rw [e]
    refine gcall_own rfl Tryz.func27 rfl ?_
    have f1 : (nck f p = 0) = False := eq_false h
    simp -dsimp only [go_sem, k1, f1]
    exact compV_nilE
  · refine gcall_own rfl Tryz.func27 rfl ?_
    subst hf; subst hp
    rw [List.length_map] at hn
    subst hn
    rw [nck_good hg h2 h3 h4 h5] at k1
    have hlen := hg.len
    have hpl := pts_len q 0 g
    change (pts q g).length ≤ g.length at hpl
    have hhl := hull_len (pts q g)
    have k2 := fun lk => p_points lk H a g g.length q rfl (by omega) h2 (by omega) (fun z hz => by have := hg.small z hz; omega) hs.ofI
    have hsm := pts_small h2 hg
    have k3 := fun lk => p_vertices lk (H ++ mkN (pts q g)) (mkA H (pts q g)) (pts q g) (pts q g).length rfl (by omega) hsm (mk_sl _ _)
    simp -dsimp only [go_sem, k1, k2, k3]
    rw [← List.append_assoc]
    exact compV_mkE ((mk_own _ _).low (by simp)) rfl (mkA_none _ _) (cells_kok (fun x => rfl) _)
theorem p_Sides (lk : Nat) (H : Heap) (a : Option Addr) (f : List RI) (n : Nat) (p : Int) (hn : n = f.length) (hl : n ≤ 9223372036854775807) (hs : SL H a f) :
    (nck f p ≠ 0 → gcall Tryz.prog md lk 19 [.slice a n n, .int .i64 p] H = some (.tuple #[.slice none 0 0, .int .i64 (nck f p)], H)) ∧
    (∀ (g : List Int) (q : Nat), f = g.map ofI → p = (q : Int) → OkP g → 2 ≤ q → q ≤ 65521 → Pr q → 0 < g.length → gcall Tryz.prog md lk 19 [.slice a n n, .int .i64 p] H = some (.tuple #[.slice (mkA H (sidesOf (hull (pts q g)))) (sidesOf (hull (pts q g))).length (sidesOf (hull (pts q g))).length, .int .i64 0], H ++ mkN (sidesOf (hull (pts q g))))) := by
  have k1 := fun lk => p_check lk H a f n p hn hl hs
  refine ⟨fun h => ?_, fun g q hf hp hg h2 h3 h4 h5 => ?_⟩
  · have e : H = H ++ [] := (List.append_nil H).symm
    conv => rhs; rw [e]
    refine gcall_own rfl Tryz.func19 rfl ?_
    have f1 : (nck f p = 0) = False := eq_false h
    simp -dsimp only [go_sem, k1, f1]
    exact compV_nilE
  · refine gcall_own rfl Tryz.func19 rfl ?_
    subst hf; subst hp
    rw [List.length_map] at hn
    subst hn
    rw [nck_good hg h2 h3 h4 h5] at k1
    have hlen := hg.len
    have hpl := pts_len q 0 g
    change (pts q g).length ≤ g.length at hpl
    have hhl := hull_len (pts q g)
    have k2 := fun lk => p_points lk H a g g.length q rfl (by omega) h2 (by omega) (fun z hz => by have := hg.small z hz; omega) hs.ofI
    have hsm := pts_small h2 hg
    have k3 := fun lk => p_vertices lk (H ++ mkN (pts q g)) (mkA H (pts q g)) (pts q g) (pts q g).length rfl (by omega) hsm (mk_sl _ _)
    have k4 := fun lk => p_sides lk (H ++ mkN (pts q g) ++ mkN (hull (pts q g))) (mkA (H ++ mkN (pts q g)) (hull (pts q g))) (hull (pts q g)) (hull (pts q g)).length rfl (by omega) (fun v hv => hsm v (hull_mem hv)) (hull_inc (pts_from q 0 g).1) (mk_sl _ _)
    simp only [List.append_assoc] at k4
    simp -dsimp only [go_sem, k1, k2, k3, k4]
    simp only [← List.append_assoc]
    have hle : H.length ≤ (H ++ mkN (pts q g) ++ mkN (hull (pts q g))).length := by rw [List.append_assoc, List.length_append]; omega
    exact compV_mkE ((mk_own _ _).low hle) rfl (mkA_none _ _) (cells_kok (fun x => rfl) _)
end Gx
end
section
set_option autoImplicit false
namespace Gx
open Go Go.Proofs
set_option maxRecDepth 10000
theorem p_ratCheck (lk : Nat) (H : Heap) (q : Rat) (h1 : (bytes q.num.natAbs).length ≤ 1024) (h2 : (bytes q.den).length ≤ 1024) : gcall Tryz.prog md lk 225 [vR q] H = some (.int .i64 0, H) := by
  refine gcall_val rfl Tryz.func225 rfl rfl ?_
  have hck : ckI (ofI q.num) = 0 := by rw [ckI_ofI, if_neg (by omega)]
  have k1 : ∀ lk H', gcall Tryz.prog md lk 237 [vI q.num] H' = some (.int .i64 0, H') := fun lk H' => by
    have := p_intCheck lk H' (ofI q.num)
    rw [hck] at this; exact this
  have hd : q.den ≠ 0 := q.den_nz
  have k2 : ∀ lk H', gcall Tryz.prog md lk 291 [.string (mkS (bytes q.den))] H' = some (.int .i64 0, H') := fun lk H' => by
    rw [p_natCheck, if_neg, if_neg (by omega)]
    intro h; exact bytes_ne_zero _ _ h rfl
  have hdn : bytes q.den = [] ↔ False := by rw [bytes_eq_nil]; simp [hd]
  have one : [1] = bytes 1 := bytes_one.symm
  have k3 := fun lk H' => c_NatGcd lk H' q.num.natAbs q.den (by omega) (by omega)
  have hg : Nat.gcd q.num.natAbs q.den = 1 := q.reduced
  rw [hg] at k3
  by_cases hd1 : q.den = 1
  · have f1 : (q.den = 1) = True := eq_true hd1
    simp -dsimp only [go_sem, k1, k2, hdn, one, f1]
  · have f1 : (q.den = 1) = False := eq_false hd1
    simp -dsimp only [go_sem, k1, k2, hdn, one, f1, k3]
/-- A denominator as a machine integer. -/
def denI (q : Rat) : Int := if I64 (q.den : Int) then (q.den : Int) else 0
theorem IntTo_nat (lk : Nat) (H : Heap) (n : Nat) (hl : (bytes n).length < 100000000) : gcall Tryz.prog md lk 176 [.agg #[.bool false, .string (mkS (bytes n))]] H = some (.tuple #[.int .i64 (if I64 (n : Int) then (n : Int) else 0), .bool (decide (I64 (n : Int)))], H) := by
  have := c_IntTo lk H (n : Int) (by rw [Int.natAbs_natCast]; exact hl)
  rw [← vI_pos] at this
  exact this
theorem p_denominator (lk : Nat) (H : Heap) (x : Sd) (hl : (bytes x.s.den).length < 100000000) : gcall Tryz.prog md lk 102 [vSd x] H = some (.int .i64 (denI x.s), H) := by
  refine gcall_val rfl Tryz.func102 rfl rfl ?_
  have k := fun lk H' => IntTo_nat lk H' x.s.den hl
  simp -dsimp only [go_sem, k]
  rfl
theorem denI_small {q : Rat} (h : q.den ≤ 1000000) : denI q = (q.den : Int) := by
  unfold denI; rw [if_pos (by omega)]
/-- The error of a side alone, whose numbers are not long. -/
def oneE (x : Sd) : Int := if x.n < 1 ∨ 64 < x.n then 3 else if x.n < (x.s.den : Int) ∨ x.n % (x.s.den : Int) ≠ 0 then 1 else 0
theorem p_one (lk : Nat) (H : Heap) (x : Sd) (h1 : (bytes x.s.num.natAbs).length ≤ 1024) (h2 : x.s.den ≤ 1000000) : gcall Tryz.prog md lk 151 [vSd x] H = some (.int .i64 (oneE x), H) := by
  refine gcall_val rfl Tryz.func151 rfl rfl ?_
  have l2 := bl_small (n := x.s.den) (by omega)
  have k1 := fun lk H' => p_ratCheck lk H' x.s h1 (by omega)
  have k2 := fun lk H' => IntTo_nat lk H' x.s.den (by omega)
  have hI : I64 (x.s.den : Int) := by omega
  rw [if_pos hI, decide_eq_true hI] at k2
  have hd : (x.s.den : Int) ≠ 0 := by have := x.s.den_nz; omega
  unfold oneE
  by_cases a1 : x.n < 1
  · rw [if_pos (Or.inl a1)]
    simp -dsimp only [go_sem, k1, a1]
  · by_cases a2 : 64 < x.n
    · rw [if_pos (Or.inr a2)]
      simp -dsimp only [go_sem, k1, a1, a2]
    · rw [if_neg (by omega)]
      have e : Int.tmod x.n (x.s.den : Int) = x.n % (x.s.den : Int) := Int.tmod_eq_emod_of_nonneg (by omega)
      by_cases a3 : x.n < (x.s.den : Int)
      · rw [if_pos (Or.inl a3)]
        simp -dsimp only [go_sem, k1, a1, a2, k2, a3]
      · by_cases a4 : x.n % (x.s.den : Int) = 0
        · have f4 : (x.n % (x.s.den : Int) = 0) = True := eq_true a4
          have f5 : ((x.s.den : Int) = 0) = False := eq_false hd
          rw [if_neg (by rintro (h | h); exact a3 h; exact h a4)]
          simp -dsimp only [go_sem, k1, a1, a2, k2, a3, e, f4, f5]
          exact hd
        · have f4 : (x.n % (x.s.den : Int) = 0) = False := eq_false a4
          have f5 : ((x.s.den : Int) = 0) = False := eq_false hd
          rw [if_pos (Or.inr a4)]
          simp -dsimp only [go_sem, k1, a1, a2, k2, a3, e, f4, f5]
          exact hd
/-- Is the polygon pure? -/
def pureB (q : Nat) (g : List Int) : Bool :=
  decide (g.getD 0 0 ≠ 0) && (match sidesOf (hull (pts q g)) with
    | [x] => decide ((x.s.den : Int) = x.n)
    | _ => false)
/-- A side's numbers are small. -/
theorem rat_den_le (a b : Int) (hb : 0 < b) : (Rat.divInt a b).den ≤ b.natAbs := by
  rw [(rat_make a b (by omega)).2]; exact Nat.div_le_self _ _
theorem rat_num_le (a b : Int) (hb : 0 < b) : (Rat.divInt a b).num.natAbs ≤ a.natAbs := by
  rw [(rat_make a b (by omega)).1, sg_natAbs]; exact Nat.div_le_self _ _
theorem sides_small {l : List Vtx} (hv : ∀ v ∈ l, SmV v) (hx : ∀ i (h : i + 1 < l.length), l[i].x < l[i + 1].x) : ∀ s ∈ sidesOf l, s.s.den ≤ 2000000 ∧ s.s.num.natAbs ≤ 2000000 ∧ 0 < s.n ∧ s.n ≤ 2000000 := by
  intro s hs
  unfold sidesOf sidesTo at hs
  obtain ⟨i, hi, rfl⟩ := List.mem_map.1 hs
  rw [List.mem_range] at hi
  have hi0 : i < l.length := by omega
  have hi1 : i + 1 < l.length := by omega
  simp only [List.getD, List.getElem?_eq_getElem hi0, List.getElem?_eq_getElem hi1, Option.getD_some, sideOf]
  obtain ⟨a1, a2, a3, a4⟩ := hv _ (List.getElem_mem hi0)
  obtain ⟨b1, b2, b3, b4⟩ := hv _ (List.getElem_mem hi1)
  have := hx i hi1
  have d1 := rat_den_le (l[i + 1].y - l[i].y) (l[i + 1].x - l[i].x) (by omega)
  have d2 := rat_num_le (l[i + 1].y - l[i].y) (l[i + 1].x - l[i].x) (by omega)
  exact ⟨by omega, by omega, by omega, by omega⟩
theorem p_IsPure (lk : Nat) (H : Heap) (a : Option Addr) (g : List Int) (q n : Nat) (hn : n = g.length) (hs : SL H a g) (hg : OkP g) (h2 : 2 ≤ q) (h3 : q ≤ 65521) (h4 : Pr q) (h5 : 0 < g.length) :
    gcall Tryz.prog md lk 28 [.slice a n n, .int .i64 (q : Int)] H = some (.tuple #[.bool (pureB q g), .int .i64 0], H) := by
  refine gcall_val rfl Tryz.func28 rfl rfl ?_
  have hlen := hg.len
  have k1 := fun lk => (p_Sides lk H a (g.map ofI) n (q : Int) (by rw [List.length_map]; exact hn) (by omega) hs.toI).2 g q rfl rfl hg h2 h3 h4 h5
  obtain ⟨b, o, B, rfl, hB, hz, hgt⟩ := hs.int 0 h5
  rw [Nat.zero_mul, Nat.add_zero] at hgt
  have hB' := ilive_app (N := mkN (sidesOf (hull (pts q g)))) hB
  have hsm := sides_small (fun v hv => pts_small h2 hg v (hull_mem hv)) (hull_inc (pts_from q 0 g).1)
  have hS := mk_sl H (sidesOf (hull (pts q g)))
  have hzero : Value.agg (List.toArray [.bool false, .string (mkS [])]) = vI 0 := vI_zero
  have hg0 : g.getD 0 0 = g[0] := by simp [List.getD, h5]
  have f1 : (0 : Int) < ((n : Nat) : Int) := by omega
  unfold pureB
  rw [hg0]
  generalize sidesOf (hull (pts q g)) = S at *
  by_cases h0 : g[0] = 0
  · rw [decide_eq_false (fun h => h h0), Bool.false_and]
    have f0 : (g[0] = 0) = True := eq_true h0
    simp -dsimp only [go_sem, k1, hB', hz, hgt, hzero, eq_true f1, f0]
  · rw [decide_eq_true h0, Bool.true_and]
    have f0 : (g[0] = 0) = False := eq_false h0
    by_cases hl : S.length = 1
    · obtain ⟨x, rfl⟩ := List.length_eq_one_iff.1 hl
      obtain ⟨b2, o2, B2, hb2, hB2, hz2, hg2⟩ := hS.sd 0 (by simp)
      rw [Nat.zero_mul, Nat.add_zero] at hg2
      have hx := hsm x (by simp)
      have lx := bl_small (n := x.s.den) (by omega)
      have k2 := fun lk H' => p_denominator lk H' x (by omega)
      have hd : denI x.s = (x.s.den : Int) := by unfold denI; rw [if_pos (by omega)]
      rw [hd] at k2
      have hc := isub_get hg2 3 (by omega)
      simp only [List.getElem_cons_zero] at hg2 hc
      simp only [List.length_singleton] at *
      rw [hb2] at k1
      simp -dsimp only [go_sem, k1, hB', hz, hgt, hzero, eq_true f1, f0, hB2, hz2, hg2, k2, hc]
    · have f2 : (((S.length : Nat) : Int) = 1) = False := eq_false (by omega)
      simp -dsimp only [go_sem, k1, hB', hz, hgt, hzero, eq_true f1, f0, f2]
      congr 3
      split
      · simp at hl
      · rfl
end Gx
end
section
set_option autoImplicit false
namespace Gx
open Go Go.Proofs
set_option maxRecDepth 10000
/-- Sides whose numbers are not long. -/
def SmS (x : Sd) : Prop := (bytes x.s.num.natAbs).length ≤ 1024 ∧ x.s.den ≤ 1000000
def oneFirst : List Sd → Int
  | [] => 0
  | x :: r => if oneE x ≠ 0 then oneE x else oneFirst r
theorem oneFirst_drop (f : List Sd) (i : Nat) (h : i < f.length) : oneFirst (f.drop i) = if oneE f[i] ≠ 0 then oneE f[i] else oneFirst (f.drop (i + 1)) := by
  rw [List.drop_eq_getElem_cons h]; rfl
/-- The sum of the lengths. -/
def lenSum : List Sd → Int
  | [] => 0
  | x :: r => x.n + lenSum r
theorem lenSum_app (a b : List Sd) : lenSum (a ++ b) = lenSum a + lenSum b := by
  induction a with
  | nil => simp [lenSum]
  | cons x r ih => simp only [List.cons_append, lenSum, ih]; omega
theorem lenSum_take (f : List Sd) (i : Nat) (h : i < f.length) : lenSum (f.take (i + 1)) = lenSum (f.take i) + f[i].n := by
  rw [List.take_add_one, List.getElem?_eq_getElem h, Option.toList_some, lenSum_app]; simp [lenSum]
/-- Do the slopes ascend? -/
def asc (f : List Sd) : Prop := ∀ i (h : i + 1 < f.length), f[i].s < f[i + 1].s
open Classical in
/-- The error of a list of sides. -/
noncomputable def ckS (f : List Sd) : Int := if 64 < f.length then 5 else if oneFirst f ≠ 0 then oneFirst f else if ¬ asc f then 25 else if 64 < lenSum f then 4 else 0
theorem oneE_pos {x : Sd} (h : oneE x = 0) : 1 ≤ x.n ∧ x.n ≤ 64 := by
  unfold oneE at h
  by_cases h1 : x.n < 1 ∨ 64 < x.n
  · rw [if_pos h1] at h; cases h
  · omega
theorem rcmp_ge (a b : Rat) : (0 ≤ rcmp a b) = ¬ (a < b) := by
  unfold rcmp
  apply propext
  by_cases h : a < b
  · simp [h]
  · rw [if_neg h]; split <;> simp [h]
theorem bl_of_small {n : Nat} (h : n ≤ 1000000) : (bytes n).length ≤ 8 := bl_small (by omega)
theorem p_Check (lk : Nat) (H : Heap) (a : Option Addr) (f : List Sd) (n : Nat) (hn : n = f.length) (hl : n ≤ 9223372036854775807) (hf : ∀ x ∈ f, SmS x) (hs : SL H a f) : gcall Tryz.prog md lk 67 [.slice a n n] H = some (.int .i64 (ckS f), H) := by
  subst hn
  refine gcall_val rfl Tryz.func67 rfl rfl ?_
  unfold ckS
  by_cases h64 : 64 < f.length
  · have f1 : (64 < ((f.length : Nat) : Int)) = True := eq_true (by omega)
    rw [if_pos h64]
    simp -dsimp only [go_sem, f1]
  · have f1 : (64 < ((f.length : Nat) : Int)) = False := eq_false (by omega)
    rw [if_neg h64]
    simp -dsimp only [go_sem, f1]
    refine r_join_blk (fun σ H' => oneFirst f = 0 ∧ Ext H H' ∧ σ 0 = .slice a f.length f.length ∧ σ 3 = .int .i64 (lenSum f)) ?_ ?_
    · refine r_loop (m := fun i => f.length - i) (I := fun i σ H' => i ≤ f.length ∧ Ext H H' ∧ oneFirst f = oneFirst (f.drop i) ∧ 0 ≤ lenSum (f.take i) ∧ lenSum (f.take i) ≤ 64 * i ∧ σ 0 = .slice a f.length f.length ∧ σ 3 = .int .i64 (lenSum (f.take i)) ∧ σ 11 = .slice a f.length f.length ∧ σ 12 = .int .i64 (f.length : Int) ∧ σ 13 = .int .i64 (i : Int)) 0 ⟨Nat.zero_le _, Ext.refl _, rfl, Int.le_refl _, by simp [lenSum], rfl, rfl, rfl, rfl, rfl⟩ ?_
      rintro i σ H' ⟨h1, hE, hF, hs0, hs1, h0, h3, h11, h12, h13⟩
      by_cases hi : i < f.length
      · have f2 : ((i : Int) < ((f.length : Nat) : Int)) = True := eq_true (by omega)
        obtain ⟨b, o, B, rfl, hB, hz, hg⟩ := hs.sd i hi
        have hB' := hE.live hB
        have e7 : IntKind.i64.wrap ((i : Int) + 1) = ((i + 1 : Nat) : Int) := by rw [w64 (by omega) (by omega)]; omega
        obtain ⟨m1, m2⟩ := hf _ (List.getElem_mem hi)
        have hc := fun lk H' => p_one lk H' f[i] m1 m2
        rw [oneFirst_drop f i hi] at hF
        have hlo := hE.le
        by_cases hk : oneE f[i] = 0
        · have f3 : (oneE f[i] = 0) = True := eq_true hk
          rw [if_neg (fun h => h hk)] at hF
          have hpos := oneE_pos hk
          have hst := lenSum_take f i hi
          have e8 : IntKind.i64.wrap (lenSum (f.take i) + f[i].n) = lenSum (f.take (i + 1)) := by rw [w64 (by omega) (by omega), hst]
          simp -dsimp only [go_sem, h0, h3, h11, h12, h13, f2, hB', hz, hg, hi, hc, f3, e7, e8, hlo]
          exact next (i + 1) (by show f.length - (i + 1) < f.length - i; omega) ⟨hi, hE.more _, hF, by omega, by omega, h0, rfl, h11, h12, rfl⟩
        · have f3 : (oneE f[i] = 0) = False := eq_false hk
          rw [if_pos hk] at hF
          have f4 : (oneFirst f ≠ 0) := by rw [hF]; exact hk
          rw [if_pos f4, hF]
          simp -dsimp only [go_sem, h0, h3, h11, h12, h13, f2, hB', hz, hg, hi, hc, f3, hlo]
      · have hi' : i = f.length := by omega
        subst hi'
        rw [List.drop_length] at hF
        rw [List.take_length] at h3
        simp -dsimp only [go_sem, h0, h3, h11, h12, h13, Int.lt_irrefl]
        exact ⟨hF, hE, h0, h3⟩
    · rintro σ H' ⟨hF0, hE, h0, h3⟩
      rw [if_neg (fun h => h hF0)]
      simp -dsimp only [go_sem]
      refine r_loop (m := fun i => f.length - i) (I := fun i σ H2 => H2 = H' ∧ (∀ j (h : j + 1 < f.length), j < i → f[j].s < f[j + 1].s) ∧ (i = 0 ∨ i < f.length) ∧ σ 0 = .slice a f.length f.length ∧ σ 3 = .int .i64 (lenSum f) ∧ σ 7 = .int .i64 ((i + 1 : Nat) : Int)) 0 ⟨rfl, fun j _ h => by omega, .inl rfl, h0, h3, rfl⟩ ?_
      rintro i σ H2 ⟨rfl, hA, hii, h0, h3, h7⟩
      by_cases hi : i + 1 < f.length
      · have f2 : (((i + 1 : Nat) : Int) < ((f.length : Nat) : Int)) = True := eq_true (by omega)
        have hi0 : i < f.length := by omega
        obtain ⟨b, o, B, rfl, hB, hz, hg⟩ := hs.sd i hi0
        obtain ⟨b2, o2, B2, heq, hB2, hz2, hg2⟩ := hs.sd (i + 1) hi
        cases heq
        rw [hB] at hB2
        cases hB2
        have hB' := hE.live hB
        have e1 : IntKind.i64.wrap (((i + 1 : Nat) : Int) - 1) = (i : Int) := by rw [w64 (by omega) (by omega)]; omega
        have e7 : IntKind.i64.wrap (((i + 1 : Nat) : Int) + 1) = ((i + 1 + 1 : Nat) : Int) := by rw [w64 (by omega) (by omega)]; omega
        obtain ⟨m1, m2⟩ := hf _ (List.getElem_mem hi0)
        obtain ⟨m3, m4⟩ := hf _ (List.getElem_mem hi)
        have n2 := bl_of_small m2
        have n4 := bl_of_small m4
        have hc := fun lk H' => c_Cmp lk H' f[i].s f[i + 1].s (by omega) (by omega) (by omega) (by omega)
        have t1 : ∀ (c : List Value) (o : Nat) (w x y z : Value), isub c o 4 = some [w, x, y, z] → isub c o 3 = some [w, x, y] := by
          intro c o w x y z h
          unfold isub at h ⊢
          split at h
          · injection h with h
            rw [if_pos (by omega)]
            congr 1
            have : ((c.drop o).take 4).take 3 = [w, x, y] := by rw [h]; rfl
            rw [List.take_take] at this
            exact this
          · cases h
        have hg3 := t1 _ _ _ _ _ _ hg
        have hg4 := t1 _ _ _ _ _ _ hg2
        have hil : i < f.length := hi0
        by_cases hlt : f[i].s < f[i + 1].s
        · have f3 : (0 ≤ rcmp f[i].s f[i + 1].s) = False := by rw [rcmp_ge]; exact eq_false (fun h => h hlt)
          simp -dsimp only [go_sem, h0, h3, h7, f2, e1, e7, hB', hz, hg3, hg4, hi, hil, hc, f3]
          refine next (i + 1) (by show f.length - (i + 1) < f.length - i; omega) ⟨rfl, fun j h hj => ?_, .inr hi, h0, h3, rfl⟩
          by_cases hji : j = i
          · subst hji; exact hlt
          · exact hA j h (by omega)
        · have f3 : (0 ≤ rcmp f[i].s f[i + 1].s) = True := by rw [rcmp_ge]; exact eq_true hlt
          rw [if_pos (fun h => hlt (h i hi))]
          simp -dsimp only [go_sem, h0, h3, h7, f2, e1, e7, hB', hz, hg3, hg4, hi, hil, hc, f3]
      · have f2 : (((i + 1 : Nat) : Int) < ((f.length : Nat) : Int)) = False := eq_false (by omega)
        have hasc : asc f := fun j h => hA j h (by omega)
        rw [if_neg (fun h => h hasc)]
        by_cases h4 : 64 < lenSum f
        · have f4 : (64 < lenSum f) = True := eq_true h4
          rw [if_pos h4]
          simp -dsimp only [go_sem, h0, h3, h7, f2, f4]
        · have f4 : (64 < lenSum f) = False := eq_false h4
          rw [if_neg h4]
          simp -dsimp only [go_sem, h0, h3, h7, f2, f4]
end Gx
end
section
set_option autoImplicit false
namespace Gx
open Go Go.Proofs
set_option maxRecDepth 10000
/-- A machine integer in memory. -/
structure MI where
  v : Int
  deriving DecidableEq
instance : Enc MI := ⟨fun x => [.int .i64 x.v], 1, fun _ => rfl⟩
instance : Enc Bool := ⟨fun x => [.bool x], 1, fun _ => rfl⟩
theorem cells_bool (m : List Bool) : cells m = m.map .bool := by
  induction m with
  | nil => rfl
  | cons x r ih => rw [cells_cons, ih]; rfl
theorem bool_get (m : List Bool) (i : Nat) (h : i < m.length) : (cells m)[i]? = some (.bool m[i]) := by rw [cells_bool]; simp [h]
theorem bool_put (m : List Bool) (i : Nat) (b : Bool) (h : i < m.length) : iput (cells m) i [.bool b] = cells (m.set i b) := by
  have := cells_put m i b h
  rw [show Enc.n Bool = 1 from rfl, Nat.mul_one] at this
  exact this
def partD (d : Nat) (m : List Bool) (t : Nat) : List Bool := (List.range 65).map fun j => m.getD j false || (decide (t + d ≤ j) && m.getD (j - d) false)
def addD (d : Nat) (m : List Bool) : List Bool := partD d m 0
def addK (d : Nat) : Nat → List Bool → List Bool
  | 0, m => m
  | k + 1, m => addD d (addK d k m)
def may0 : List Bool := true :: List.replicate 64 false
def mayOf (f : List Sd) : List Bool := f.foldl (fun m x => addK x.s.den (x.n / (x.s.den : Int)).toNat m) may0
def degsTo (m : List Bool) (i : Nat) : List MI := ((List.range i).filter fun j => m.getD j false).map fun (j : Nat) => (⟨(j : Int)⟩ : MI)
/-- The possible degrees. -/
def degs (f : List Sd) : List MI := degsTo (mayOf f) 65
theorem partD_len (d : Nat) (m : List Bool) (t : Nat) : (partD d m t).length = 65 := by simp [partD]
theorem addK_len (d k : Nat) (m : List Bool) (h : m.length = 65) : (addK d k m).length = 65 := by
  cases k with
  | zero => exact h
  | succ k => exact partD_len _ _ _
theorem partD_top (d : Nat) (m : List Bool) (hm : m.length = 65) (hd : d ≤ 65) : partD d m (65 - d) = m := by
  apply List.ext_getElem
  · rw [partD_len, hm]
  · intro j h1 h2
    rw [partD_len] at h1
    simp only [partD, List.getElem_map, List.getElem_range]
    rw [decide_eq_false (by omega), Bool.false_and, Bool.or_false]
    simp [List.getD, h2]
theorem partD_get (d : Nat) (m : List Bool) (t j : Nat) (hj : j < 65) (h : j < (partD d m t).length) : (partD d m t)[j] = (m.getD j false || (decide (t + d ≤ j) && m.getD (j - d) false)) := by
  simp only [partD, List.getElem_map, List.getElem_range]
theorem partD_step (d : Nat) (m : List Bool) (u : Nat) (hd : 1 ≤ d) (hu : u + d < 65) (h1 : u + d < (partD d m (u + 1)).length) (h2 : u < (partD d m (u + 1)).length) :
    partD d m u = (partD d m (u + 1)).set (u + d) ((partD d m (u + 1))[u + d] || (partD d m (u + 1))[u]) := by
  apply List.ext_getElem
  · rw [List.length_set, partD_len, partD_len]
  · intro j g1 g2
    rw [partD_len] at g1
    rw [partD_get _ _ _ _ g1, List.getElem_set]
    by_cases hj : u + d = j
    · subst hj
      rw [if_pos rfl, partD_get _ _ _ _ g1, partD_get _ _ _ _ (by omega), decide_eq_true (by omega), decide_eq_false (by omega), decide_eq_false (by omega), show u + d - d = u by omega]
      simp
    · rw [if_neg hj, partD_get _ _ _ _ g1]
      have : decide (u + d ≤ j) = decide (u + 1 + d ≤ j) := decide_eq_decide.2 ⟨fun h => by omega, fun h => by omega⟩
      rw [this]
theorem mayOf_take (f : List Sd) (i : Nat) (h : i < f.length) : mayOf (f.take (i + 1)) = addK f[i].s.den (f[i].n / (f[i].s.den : Int)).toNat (mayOf (f.take i)) := by
  unfold mayOf
  rw [List.take_add_one, List.getElem?_eq_getElem h, Option.toList_some, List.foldl_append]; rfl
theorem mayOf_len (f : List Sd) : (mayOf f).length = 65 := by
  have : ∀ (f : List Sd) (m : List Bool), m.length = 65 → (f.foldl (fun m x => addK x.s.den (x.n / (x.s.den : Int)).toNat m) m).length = 65 := by
    intro f
    induction f with
    | nil => intro m h; exact h
    | cons x r ih => intro m h; exact ih _ (addK_len _ _ _ h)
  exact this f may0 (by simp [may0])
theorem degsTo_succ (m : List Bool) (i : Nat) : degsTo m (i + 1) = if m.getD i false = true then degsTo m i ++ [⟨(i : Int)⟩] else degsTo m i := by
  unfold degsTo
  rw [List.range_succ, List.filter_append, List.map_append]
  by_cases h : m.getD i false = true
  · rw [if_pos h, List.filter_cons, if_pos h]; rfl
  · rw [if_neg h, List.filter_cons, if_neg h]; simp
theorem degsTo_len (m : List Bool) (i : Nat) : (degsTo m i).length ≤ i := by
  unfold degsTo
  rw [List.length_map]
  exact Nat.le_trans (List.length_filter_le _ _) (by simp)
theorem oneE_den {x : Sd} (h : oneE x = 0) : 1 ≤ x.s.den ∧ x.s.den ≤ 64 ∧ (x.s.den : Int) ≤ x.n := by
  have hd := x.s.den_nz
  have hp := oneE_pos h
  unfold oneE at h
  rw [if_neg (by omega)] at h
  by_cases h2 : x.n < (x.s.den : Int) ∨ x.n % (x.s.den : Int) ≠ 0
  · rw [if_pos h2] at h; cases h
  · refine ⟨by omega, ?_, ?_⟩ <;> omega
theorem ckS_one {f : List Sd} (h : ckS f = 0) : f.length ≤ 64 ∧ ∀ x ∈ f, oneE x = 0 := by
  unfold ckS at h
  by_cases h1 : 64 < f.length
  · rw [if_pos h1] at h; cases h
  · rw [if_neg h1] at h
    refine ⟨by omega, ?_⟩
    by_cases h2 : oneFirst f ≠ 0
    · rw [if_pos h2] at h; exact absurd h h2
    · have h3 := Decidable.not_not.1 h2
      clear h h1 h2
      induction f with
      | nil => intro x hx; simp at hx
      | cons y r ih =>
        unfold oneFirst at h3
        by_cases hy : oneE y ≠ 0
        · rw [if_pos hy] at h3; exact absurd h3 hy
        · rw [if_neg hy] at h3
          intro x hx
          rcases List.mem_cons.1 hx with rfl | hx
          · exact Decidable.not_not.1 hy
          · exact ih h3 x hx
theorem p_Degrees (lk : Nat) (H : Heap) (a : Option Addr) (f : List Sd) (n : Nat) (hn : n = f.length) (hl : n ≤ 9223372036854775807) (hf : ∀ x ∈ f, SmS x) (hs : SL H a f) :
    (ckS f ≠ 0 → gcall Tryz.prog md lk 66 [.slice a n n] H = some (.tuple #[.slice none 0 0, .int .i64 (ckS f)], H)) ∧
    (ckS f = 0 → gcall Tryz.prog md lk 66 [.slice a n n] H = some (.tuple #[.slice (mkA H (degs f)) (degs f).length (degs f).length, .int .i64 0], H ++ mkN (degs f))) := by
  have k1 := fun lk => p_Check lk H a f n hn hl hf hs
  subst hn
  refine ⟨fun h => ?_, fun h => ?_⟩
  · have e : H = H ++ [] := (List.append_nil H).symm
    conv => rhs; rw [e]
    refine gcall_own rfl Tryz.func66 rfl ?_
    have f1 : (ckS f = 0) = False := eq_false h
    simp -dsimp only [go_sem, k1, f1]
    exact compV_nilE
  · refine gcall_own rfl Tryz.func66 rfl ?_
    obtain ⟨h64, hone⟩ := ckS_one h
    rw [h] at k1
    have hm0 : (Value.bool true :: List.replicate 64 (Value.bool false)) = cells may0 := by rw [cells_bool]; rfl
    simp only [List.replicate] at hm0
    simp -dsimp only [go_sem, k1, hm0]
    refine ⟨by decide, ?_⟩
    refine r_join_blk (fun σ H' => Ext H H' ∧ ilive H' H.length = some (lblk (mayOf f)) ∧ σ 5 = .pointer (some ⟨H.length, 0, none⟩)) ?_ ?_
    · refine r_loop (m := fun i => f.length - i) (I := fun i σ H' => i ≤ f.length ∧ Ext H H' ∧ ilive H' H.length = some (lblk (mayOf (f.take i))) ∧ σ 5 = .pointer (some ⟨H.length, 0, none⟩) ∧ σ 19 = .slice a f.length f.length ∧ σ 20 = .int .i64 (f.length : Int) ∧ σ 21 = .int .i64 (i : Int)) 0 ⟨Nat.zero_le _, Ext.app _ _, ?_, rfl, rfl, rfl, rfl⟩ ?_
      · simp -dsimp only [go_sem]; rfl
      rintro i σ H' ⟨h1, hE, hM, h5, h19, h20, h21⟩
      by_cases hi : i < f.length
      · have f2 : ((i : Int) < ((f.length : Nat) : Int)) = True := eq_true (by omega)
        obtain ⟨b, o, B, rfl, hB, hz, hg⟩ := hs.sd i hi
        have hB' := hE.live hB
        have e7 : IntKind.i64.wrap ((i : Int) + 1) = ((i + 1 : Nat) : Int) := by rw [w64 (by omega) (by omega)]; omega
        obtain ⟨m1, m2⟩ := hf _ (List.getElem_mem hi)
        have n2 := bl_of_small m2
        obtain ⟨d1, d2, d3⟩ := oneE_den (hone _ (List.getElem_mem hi))
        obtain ⟨_, q2⟩ := oneE_pos (hone _ (List.getElem_mem hi))
        have hc := fun lk H' => p_denominator lk H' f[i] (by omega)
        rw [denI_small (by omega)] at hc
        have hlo := hE.le
        have htk := mayOf_take f i hi
        have hml := mayOf_len (f.take i)
        have f5 : (((f[i].s.den : Nat) : Int) = 0) = False := eq_false (by omega)
        have eq : IntKind.i64.wrap (Int.tdiv f[i].n ((f[i].s.den : Nat) : Int)) = (((f[i].n / (f[i].s.den : Int)).toNat : Nat) : Int) := by
          rw [Int.tdiv_eq_ediv_of_nonneg (by omega)]
          have h1 : 0 ≤ f[i].n / (f[i].s.den : Int) := Int.ediv_nonneg (by omega) (by omega)
          have h2 : f[i].n / (f[i].s.den : Int) ≤ f[i].n := Int.ediv_le_self _ (by omega)
          rw [w64 (by omega) (by omega)]; omega
        have hkk64 : (f[i].n / (f[i].s.den : Int)).toNat ≤ 64 := by
          have h2 : f[i].n / (f[i].s.den : Int) ≤ f[i].n := Int.ediv_le_self _ (by omega)
          omega
        have hM' := ilive_app (N := [(⟨[.bool (decide (f[i].s.num < 0)), .string (mkS (bytes f[i].s.num.natAbs)), .string (mkS (bytes f[i].s.den)), .int .i64 f[i].n], 4, false⟩ : Blk)]) hM
        have hE' := hE.more [(⟨[.bool (decide (f[i].s.num < 0)), .string (mkS (bytes f[i].s.num.natAbs)), .string (mkS (bytes f[i].s.den)), .int .i64 f[i].n], 4, false⟩ : Blk)]
        simp -dsimp only [go_sem, h5, h19, h20, h21, f2, hB', hz, hg, hi, hc, hlo, f5, eq]
        refine ⟨by omega, ?_⟩
        generalize (f[i].n / (f[i].s.den : Int)).toNat = kk at *
        generalize H' ++ [(⟨[.bool (decide (f[i].s.num < 0)), .string (mkS (bytes f[i].s.num.natAbs)), .string (mkS (bytes f[i].s.den)), .int .i64 f[i].n], 4, false⟩ : Blk)] = H3 at *
        generalize mayOf (f.take i) = m0 at *
        generalize f[i].s.den = d at *
        refine r_loop (m := fun k => kk - k) (I := fun k σ H2 => k ≤ kk ∧ Ext H H2 ∧ ilive H2 H.length = some (lblk (addK d k m0)) ∧ σ 5 = .pointer (some ⟨H.length, 0, none⟩) ∧ σ 8 = .int .i64 (d : Int) ∧ σ 19 = .slice (some ⟨b, o, none⟩) f.length f.length ∧ σ 20 = .int .i64 (f.length : Int) ∧ σ 21 = .int .i64 (i : Int) ∧ σ 30 = .int .i64 (kk : Int) ∧ σ 31 = .int .i64 (k : Int)) 0 ⟨Nat.zero_le _, hE', hM', h5, rfl, h19, h20, h21, rfl, rfl⟩ ?_
        rintro k σ H2 ⟨k1', hE2, hM2, h5, h8, h19, h20, h21, h30, h31⟩
        by_cases hk : k < kk
        · have f3 : ((k : Int) < (kk : Int)) = True := eq_true (by omega)
          have e9 : IntKind.i64.wrap (64 - (d : Int)) = 64 - (d : Int) := w64 (by omega) (by omega)
          have hml2 := addK_len d k m0 hml
          simp -dsimp only [go_sem, h5, h8, h30, h31, f3, e9]
          generalize hmm : addK d k m0 = m at *
          refine r_loop (m := id) (I := fun t σ H4 => t ≤ 65 - d ∧ Ext H H4 ∧ ilive H4 H.length = some (lblk (partD d m t)) ∧ σ 5 = .pointer (some ⟨H.length, 0, none⟩) ∧ σ 8 = .int .i64 (d : Int) ∧ σ 9 = .int .i64 ((t : Int) - 1) ∧ σ 19 = .slice (some ⟨b, o, none⟩) f.length f.length ∧ σ 20 = .int .i64 (f.length : Int) ∧ σ 21 = .int .i64 (i : Int) ∧ σ 30 = .int .i64 (kk : Int) ∧ σ 31 = .int .i64 (k : Int)) (65 - d) ⟨Nat.le_refl _, hE2, by rw [partD_top d m hml2 (by omega)]; exact hM2, h5, h8, by simp only [upd, if_true]; congr 1; omega, h19, h20, h21, h30, h31⟩ ?_
          rintro t σ H4 ⟨t1, hE4, hM4, h5, h8, h9, h19, h20, h21, h30, h31⟩
          by_cases ht : t = 0
          · subst ht
            have e10 : IntKind.i64.wrap ((k : Int) + 1) = ((k + 1 : Nat) : Int) := by
              rw [w64 (by omega) (by omega)]; omega
            rw [show ((0 : Nat) : Int) - 1 = -1 from rfl] at h9
            simp -dsimp only [go_sem, h5, h8, h9, h30, h31, e10]
            exact next (k + 1) (by show kk - (k + 1) < kk - k; omega) ⟨hk, hE4, by unfold addK; rw [hmm]; exact hM4, h5, h8, h19, h20, h21, h30, rfl⟩
          · obtain ⟨u, rfl⟩ : ∃ u, t = u + 1 := ⟨t - 1, by omega⟩
            have e11 : ((u + 1 : Nat) : Int) - 1 = (u : Int) := by omega
            rw [e11] at h9
            have f6 : (0 ≤ (u : Int)) = True := by simp
            have hlen := partD_len d m (u + 1)
            have l1 : u + d < (partD d m (u + 1)).length := by omega
            have l2 : u < (partD d m (u + 1)).length := by omega
            have hst := partD_step d m u d1 (by omega) l1 l2
            have b1 := bool_get _ _ l1
            have b2 := bool_get _ _ l2
            have pp := fun b => bool_put _ _ b l1
            have hlt := ilive_lt hM4
            generalize partD d m (u + 1) = pm at *
            have e12 : IntKind.i64.wrap ((u : Int) + (d : Int)) = ((u + d : Nat) : Int) := by rw [w64 (by omega) (by omega)]; omega
            have e13 : IntKind.i64.wrap ((u : Int) - 1) = (u : Int) - 1 := w64 (by omega) (by omega)
            have f7 : ((u + d : Nat) : Int) < 65 := by omega
            have f8 : (u : Int) < 65 := by omega
            have f9 : u + d < 65 := by omega
            simp only [lblk] at hM4
            have hll : H.length ≤ H.length := Nat.le_refl _
            have hcl : (cells pm).length = 65 := by rw [cells_len]; show pm.length * 1 = 65; omega
            have hE5 := hE4.set (Nat.le_refl H.length) (lblk (pm.set (u + d) (pm[u + d] || pm[u])))
            have hM5 : ilive (H4.set H.length (lblk (pm.set (u + d) (pm[u + d] || pm[u])))) H.length = some (lblk (pm.set (u + d) (pm[u + d] || pm[u]))) := ilive_set_self hlt rfl
            rw [← hst] at hE5 hM5
            have f8' : u < 65 := by omega
            cases hb : pm[u + d] with
            | true =>
              rw [hb] at b1
              rw [hb, Bool.true_or] at hst
              simp -dsimp only [go_sem, h5, h8, h9, f6, e12, e13, hM4, b1, f7, f8, f9, f8', pp, hcl, ← hst]
              exact next u (by show u < u + 1; omega) ⟨by omega, hE5, hM5, h5, h8, rfl, h19, h20, h21, h30, h31⟩
            | false =>
              rw [hb] at b1
              rw [hb, Bool.false_or] at hst
              simp -dsimp only [go_sem, h5, h8, h9, f6, e12, e13, hM4, b1, b2, f7, f8, f9, f8', pp, hcl, ← hst]
              exact next u (by show u < u + 1; omega) ⟨by omega, hE5, hM5, h5, h8, rfl, h19, h20, h21, h30, h31⟩
        · have f3 : ((k : Int) < (kk : Int)) = False := eq_false (by omega)
          have hkk : k = kk := by omega
          subst hkk
          rw [← htk] at hM2
          simp -dsimp only [go_sem, h5, h8, h19, h20, h21, h30, h31, f3, e7]
          exact next (i + 1) (by show f.length - (i + 1) < f.length - i; omega) ⟨hi, hE2, hM2, h5, h19, h20, rfl⟩
      · have hi' : i = f.length := by omega
        subst hi'
        rw [List.take_length] at hM
        simp -dsimp only [go_sem, h19, h20, h21, Int.lt_irrefl]
        exact ⟨hE, hM, h5⟩
    · rintro σ H' ⟨hE, hM, h5⟩
      have hml := mayOf_len f
      unfold degs
      generalize mayOf f = m at *
      have hcl : (cells m).length = 65 := by rw [cells_len]; show m.length * 1 = 65; omega
      have hM2 := hM
      simp only [lblk] at hM2
      have hsub : isub (cells m) 0 65 = some (cells m) := isub_all _ _ hcl
      simp -dsimp only [go_sem, h5, hM2, hsub]
      refine r_loop (m := fun (s : Nat × Option Addr) => 65 - s.1) (I := fun s σ H2 => s.1 ≤ 65 ∧ Ext H H2 ∧ Own H.length H2 s.2 (degsTo m s.1) ∧ (s.2 = none ↔ degsTo m s.1 = []) ∧ σ 10 = .slice s.2 (degsTo m s.1).length (degsTo m s.1).length ∧ σ 55 = .agg (cells m).toArray ∧ σ 56 = .int .i64 (s.1 : Int)) (0, none) ⟨Nat.zero_le _, hE, Own.nil, by simp [degsTo], rfl, rfl, rfl⟩ ?_
      rintro ⟨i, a2⟩ σ H2 ⟨i1, hE2, hO, hN, h10, h55, h56⟩
      simp only [] at i1 hO hN h10 h56
      by_cases hi : i < 65
      · have f1 : (((i : Nat) : Int) < 65) = True := eq_true (by omega)
        have f1' : ((i : Nat) : Int) < 65 := by omega
        have e7 : IntKind.i64.wrap ((i : Int) + 1) = ((i + 1 : Nat) : Int) := by rw [w64 (by omega) (by omega)]; omega
        have hil : i < m.length := by omega
        have hb := bool_get m i hil
        have hsucc := degsTo_succ m i
        have hgd : m.getD i false = m[i] := by simp [List.getD, hil]
        rw [hgd] at hsucc
        have hlen := degsTo_len m i
        cases hmi : m[i] with
        | true =>
          rw [hmi] at hb
          rw [hmi, if_pos rfl] at hsucc
          have hap := fun t t2 => ap_own (P := Tryz.prog) (lk := H.length) (t := t) (t2 := t2) hO (Nat.le_refl _) rfl [.int .i64 (i : Int)] 1 rfl rfl
          have hO2 := own_ap (lo := H.length) (H := H2) (a := a2) (l := degsTo m i) (⟨(i : Int)⟩ : MI) [⟨[.int .i64 (i : Int)], 1, false⟩] (by have := hE2.le; simp; omega)
          have hE3 : Ext H (kill (H2 ++ [⟨[.int .i64 (i : Int)], 1, false⟩]) a2) := (hO.more _).kill (hE2.more _)
          rw [← hsucc] at hO2
          simp -dsimp only [go_sem, h10, h55, h56, f1', hi, hb, e7, reps, hap]
          refine ⟨by omega, next (i + 1, some ⟨H2.length + 1, 0, none⟩) (by show 65 - (i + 1) < 65 - i; omega) ⟨hi, hE3.more _, hO2, by simp [hsucc], ?_, h55, rfl⟩⟩
          simp only [upd, hsucc, List.length_append]; rfl
        | false =>
          rw [hmi] at hb
          rw [hmi, if_neg (by decide)] at hsucc
          simp -dsimp only [go_sem, h10, h55, h56, f1', hi, hb, e7]
          refine next (i + 1, a2) (by show 65 - (i + 1) < 65 - i; omega) ⟨hi, hE2, ?_, ?_, ?_, h55, rfl⟩
          · simp only [hsucc]; exact hO
          · simp only [hsucc]; exact hN
          · simp only [hsucc]; exact h10
      · have hi' : i = 65 := by omega
        subst hi'
        have f1 : (((65 : Nat) : Int) < 65) = False := by simp
        simp -dsimp only [go_sem, h10, h55, h56, f1]
        exact compV_mkE hO rfl hN (cells_kok (fun x => rfl) _)
end Gx
end
section
set_option autoImplicit false
namespace Gx
open Go Go.Proofs
set_option maxRecDepth 10000
theorem SL.mi {H : Heap} {a : Option Addr} {f : List MI} (h : SL H a f) (i : Nat) (hi : i < f.length) : ∃ b o B, a = some ⟨b, o, none⟩ ∧ ilive H b = some B ∧ B.sz = 1 ∧ B.c[o + i]? = some (.int .i64 f[i].v) := h.get1 rfl i hi _ rfl
theorem sk_V : structK Tryz.prog 127 = some [1, 1] := by kernel_rfl
theorem sk_S : structK Tryz.prog 41 = some [0, 2, 2, 1] := by kernel_rfl
theorem vtx_neq (a b : Vtx) : ibin Tryz.prog .neq 127 (vV a) (vV b) = some (.bool (!decide (a = b))) := by
  rw [ibin_nea, sk_V]
  simp only [eqCells_int, eqCells_nil, Option.map_some, Bool.and_true]
  congr 3
  apply Bool.eq_iff_iff.2
  rw [Bool.and_eq_true, decide_eq_true_eq, decide_eq_true_eq, decide_eq_true_eq]
  constructor
  · rintro ⟨h1, h2⟩; cases a; cases b; simp only at h1 h2; rw [h1, h2]
  · rintro rfl; exact ⟨rfl, rfl⟩
theorem sd_neq (a b : Sd) : ibin Tryz.prog .neq 41 (vSd a) (vSd b) = some (.bool (!decide (a = b))) := by
  rw [ibin_nea, sk_S]
  simp only [eqCells_bool, eqCells_str, eqCells_int, eqCells_nil, Option.map_some, Bool.and_true, bytes_inj]
  congr 3
  apply Bool.eq_iff_iff.2
  simp only [Bool.and_eq_true, decide_eq_true_eq, beq_iff_eq]
  constructor
  · rintro ⟨h1, h2, h3, h4⟩
    cases a; cases b; simp only at h1 h2 h3 h4
    rw [h4, Rat.ext (vI_inj h1 h2) h3]
  · rintro rfl; exact ⟨rfl, rfl, rfl, rfl⟩
theorem mi_ne {a b : MI} : (a = b) = (a.v = b.v) := by
  apply propext
  constructor
  · rintro rfl; rfl
  · intro h; cases a; cases b; simp only at h; rw [h]
theorem list_eq_iff {α : Type} {f g : List α} (hl : f.length = g.length) : f = g ↔ ∀ j (h1 : j < f.length) (h2 : j < g.length), f[j] = g[j] :=
  ⟨fun h j h1 h2 => by subst h; rfl, fun h => List.ext_getElem hl h⟩

theorem r13_SameVertices (lk : Nat) (H : Heap) (a b : Option Addr) (f g : List Vtx) (n m : Nat) (hn : n = f.length) (hm : m = g.length) (hl : n ≤ 9223372036854775807) (hs : SL H a f) (hs2 : SL H b g) :
    gcall Tryz.prog md lk 30 [.slice a n n, .slice b m m] H = some (.bool (decide (f = g)), H) := by
  subst hn; subst hm
  refine gcall_val rfl Tryz.func30 rfl rfl ?_
  by_cases hlen : f.length = g.length
  · have f0 : (((f.length : Nat) : Int) = ((g.length : Nat) : Int)) = True := eq_true (by omega)
    simp -dsimp only [go_sem, f0]
    refine r_loop (m := fun i => f.length - i) (I := fun i σ H' => i ≤ f.length ∧ H' = H ∧ (∀ j (h1 : j < f.length) (h2 : j < g.length), j < i → f[j] = g[j]) ∧ σ 0 = .slice a f.length f.length ∧ σ 1 = .slice b g.length g.length ∧ σ 5 = .int .i64 (i : Int)) 0 ⟨Nat.zero_le _, rfl, fun j _ _ h => by omega, rfl, rfl, rfl⟩ ?_
    rintro i σ H' ⟨i1, rfl, hA, h0, h1, h5⟩
    by_cases hi : i < f.length
    · have f1 : ((i : Int) < ((f.length : Nat) : Int)) = True := eq_true (by omega)
      have hi2 : i < g.length := by omega
      have e7 : IntKind.i64.wrap ((i : Int) + 1) = ((i + 1 : Nat) : Int) := by rw [w64 (by omega) (by omega)]; omega
      obtain ⟨b1, o1, B1, rfl, hB1, hz1, hg1⟩ := hs.vtx i hi
      obtain ⟨b2, o2, B2, rfl, hB2, hz2, hg2⟩ := hs2.vtx i hi2
      have hq := vtx_neq f[i] g[i]
      by_cases he : f[i] = g[i]
      · have f2 : (f[i] = g[i]) = True := eq_true he
        rw [decide_eq_true he] at hq
        simp -dsimp only [go_sem, h0, h1, h5, f1, hi, hi2, hB1, hz1, hg1, hB2, hz2, hg2, e7, hq]
        refine next (i + 1) (by show f.length - (i + 1) < f.length - i; omega) ⟨hi, rfl, fun j x y hj => ?_, h0, h1, rfl⟩
        by_cases hji : j = i
        · subst hji; exact he
        · exact hA j x y (by omega)
      · have f2 : (f[i] = g[i]) = False := eq_false he
        rw [decide_eq_false he] at hq
        have hne : decide (f = g) = false := decide_eq_false (fun h => he ((list_eq_iff hlen).1 h i hi hi2))
        rw [hne]
        simp -dsimp only [go_sem, h0, h1, h5, f1, hi, hi2, hB1, hz1, hg1, hB2, hz2, hg2, hq]
    · have f1 : ((i : Int) < ((f.length : Nat) : Int)) = False := eq_false (by omega)
      have heq : decide (f = g) = true := decide_eq_true ((list_eq_iff hlen).2 (fun j x y => hA j x y (by omega)))
      rw [heq]
      simp -dsimp only [go_sem, h0, h1, h5, f1]
  · have f0 : (((f.length : Nat) : Int) = ((g.length : Nat) : Int)) = False := eq_false (by omega)
    have hne : decide (f = g) = false := decide_eq_false (fun h => hlen (by rw [h]))
    rw [hne]
    simp -dsimp only [go_sem, f0]

theorem r13_Same (lk : Nat) (H : Heap) (a b : Option Addr) (f g : List Sd) (n m : Nat) (hn : n = f.length) (hm : m = g.length) (hl : n ≤ 9223372036854775807) (hs : SL H a f) (hs2 : SL H b g) :
    gcall Tryz.prog md lk 20 [.slice a n n, .slice b m m] H = some (.bool (decide (f = g)), H) := by
  subst hn; subst hm
  refine gcall_val rfl Tryz.func20 rfl rfl ?_
  by_cases hlen : f.length = g.length
  · have f0 : (((f.length : Nat) : Int) = ((g.length : Nat) : Int)) = True := eq_true (by omega)
    simp -dsimp only [go_sem, f0]
    refine r_loop (m := fun i => f.length - i) (I := fun i σ H' => i ≤ f.length ∧ H' = H ∧ (∀ j (h1 : j < f.length) (h2 : j < g.length), j < i → f[j] = g[j]) ∧ σ 0 = .slice a f.length f.length ∧ σ 1 = .slice b g.length g.length ∧ σ 5 = .int .i64 (i : Int)) 0 ⟨Nat.zero_le _, rfl, fun j _ _ h => by omega, rfl, rfl, rfl⟩ ?_
    rintro i σ H' ⟨i1, rfl, hA, h0, h1, h5⟩
    by_cases hi : i < f.length
    · have f1 : ((i : Int) < ((f.length : Nat) : Int)) = True := eq_true (by omega)
      have hi2 : i < g.length := by omega
      have e7 : IntKind.i64.wrap ((i : Int) + 1) = ((i + 1 : Nat) : Int) := by rw [w64 (by omega) (by omega)]; omega
      obtain ⟨b1, o1, B1, rfl, hB1, hz1, hg1⟩ := hs.sd i hi
      obtain ⟨b2, o2, B2, rfl, hB2, hz2, hg2⟩ := hs2.sd i hi2
      have hq := sd_neq f[i] g[i]
      by_cases he : f[i] = g[i]
      · have f2 : (f[i] = g[i]) = True := eq_true he
        rw [decide_eq_true he] at hq
        simp -dsimp only [go_sem, h0, h1, h5, f1, hi, hi2, hB1, hz1, hg1, hB2, hz2, hg2, e7, hq]
        refine next (i + 1) (by show f.length - (i + 1) < f.length - i; omega) ⟨hi, rfl, fun j x y hj => ?_, h0, h1, rfl⟩
        by_cases hji : j = i
        · subst hji; exact he
        · exact hA j x y (by omega)
      · have f2 : (f[i] = g[i]) = False := eq_false he
        rw [decide_eq_false he] at hq
        have hne : decide (f = g) = false := decide_eq_false (fun h => he ((list_eq_iff hlen).1 h i hi hi2))
        rw [hne]
        simp -dsimp only [go_sem, h0, h1, h5, f1, hi, hi2, hB1, hz1, hg1, hB2, hz2, hg2, hq]
    · have f1 : ((i : Int) < ((f.length : Nat) : Int)) = False := eq_false (by omega)
      have heq : decide (f = g) = true := decide_eq_true ((list_eq_iff hlen).2 (fun j x y => hA j x y (by omega)))
      rw [heq]
      simp -dsimp only [go_sem, h0, h1, h5, f1]
  · have f0 : (((f.length : Nat) : Int) = ((g.length : Nat) : Int)) = False := eq_false (by omega)
    have hne : decide (f = g) = false := decide_eq_false (fun h => hlen (by rw [h]))
    rw [hne]
    simp -dsimp only [go_sem, f0]

theorem l13_same (lk : Nat) (H : Heap) (a b : Option Addr) (f g : List MI) (n m : Nat) (hn : n = f.length) (hm : m = g.length) (hl : n ≤ 9223372036854775807) (hs : SL H a f) (hs2 : SL H b g) :
    gcall Tryz.prog md lk 69 [.slice a n n, .slice b m m] H = some (.bool (decide (f = g)), H) := by
  subst hn; subst hm
  refine gcall_val rfl Tryz.func69 rfl rfl ?_
  by_cases hlen : f.length = g.length
  · have f0 : (((f.length : Nat) : Int) = ((g.length : Nat) : Int)) = True := eq_true (by omega)
    simp -dsimp only [go_sem, f0]
    refine r_loop (m := fun i => f.length - i) (I := fun i σ H' => i ≤ f.length ∧ H' = H ∧ (∀ j (h1 : j < f.length) (h2 : j < g.length), j < i → f[j] = g[j]) ∧ σ 0 = .slice a f.length f.length ∧ σ 1 = .slice b g.length g.length ∧ σ 5 = .int .i64 (i : Int)) 0 ⟨Nat.zero_le _, rfl, fun j _ _ h => by omega, rfl, rfl, rfl⟩ ?_
    rintro i σ H' ⟨i1, rfl, hA, h0, h1, h5⟩
    by_cases hi : i < f.length
    · have f1 : ((i : Int) < ((f.length : Nat) : Int)) = True := eq_true (by omega)
      have hi2 : i < g.length := by omega
      have e7 : IntKind.i64.wrap ((i : Int) + 1) = ((i + 1 : Nat) : Int) := by rw [w64 (by omega) (by omega)]; omega
      obtain ⟨b1, o1, B1, rfl, hB1, hz1, hg1⟩ := hs.mi i hi
      obtain ⟨b2, o2, B2, rfl, hB2, hz2, hg2⟩ := hs2.mi i hi2
      have hq := mi_ne (a := f[i]) (b := g[i])
      by_cases he : f[i] = g[i]
      · have f2 : (f[i] = g[i]) = True := eq_true he
        rw [mi_ne] at f2
        simp -dsimp only [go_sem, h0, h1, h5, f1, hi, hi2, hB1, hz1, hg1, hB2, hz2, hg2, e7, f2]
        refine next (i + 1) (by show f.length - (i + 1) < f.length - i; omega) ⟨hi, rfl, fun j x y hj => ?_, h0, h1, rfl⟩
        by_cases hji : j = i
        · subst hji; exact he
        · exact hA j x y (by omega)
      · have f2 : (f[i] = g[i]) = False := eq_false he
        rw [mi_ne] at f2
        have hne : decide (f = g) = false := decide_eq_false (fun h => he ((list_eq_iff hlen).1 h i hi hi2))
        rw [hne]
        simp -dsimp only [go_sem, h0, h1, h5, f1, hi, hi2, hB1, hz1, hg1, hB2, hz2, hg2, f2]
    · have f1 : ((i : Int) < ((f.length : Nat) : Int)) = False := eq_false (by omega)
      have heq : decide (f = g) = true := decide_eq_true ((list_eq_iff hlen).2 (fun j x y => hA j x y (by omega)))
      rw [heq]
      simp -dsimp only [go_sem, h0, h1, h5, f1]
  · have f0 : (((f.length : Nat) : Int) = ((g.length : Nat) : Int)) = False := eq_false (by omega)
    have hne : decide (f = g) = false := decide_eq_false (fun h => hlen (by rw [h]))
    rw [hne]
    simp -dsimp only [go_sem, f0]

end Gx
end
section
set_option autoImplicit false
namespace Gx
open Go Go.Proofs
set_option maxRecDepth 10000
/-- How many of the first k numbers are left when the noughts at the end are dropped. -/
def trimZ (f : List Int) : Nat → Nat
  | 0 => 0
  | k + 1 => if f.getD k 0 = 0 then trimZ f k else k + 1
theorem trimZ_full (f : List Int) (h : f ≠ [] → cf f (f.length - 1) ≠ 0) : trimZ f f.length = f.length := by
  cases hl : f.length with
  | zero => rfl
  | succ k =>
    have h1 := h (by intro h2; subst h2; cases hl)
    unfold cf at h1
    rw [hl, Nat.add_sub_cancel] at h1
    unfold trimZ; rw [if_neg h1]
theorem r11_Trim (lk : Nat) (H : Heap) (a : Option Addr) (f : List Int) (n : Nat) (hn : n = f.length) (hl : n ≤ 9223372036854775807) (hs : SL H a f) :
    gcall Tryz.prog md lk 153 [.slice a n n] H = some (.slice a (trimZ f n) (trimZ f n), H) := by
  subst hn
  have e : H = H ++ [] := (List.append_nil H).symm
  conv => rhs; rw [e]
  refine gcall_own rfl Tryz.func153 rfl ?_
  have hfin : compV H H.length (.slice a (trimZ f f.length) (trimZ f f.length)) = some (.slice a (trimZ f f.length) (trimZ f f.length), []) := by
    rcases hs with ⟨rfl, rfl⟩ | ⟨b, o, B, rfl, h2, _⟩
    · rfl
    · simp [compV, comp1, compCell, ilive_lt h2]
  simp -dsimp only [go_sem]
  refine r_loop (m := id) (I := fun k σ H' => k ≤ f.length ∧ trimZ f k = trimZ f f.length ∧ H = H' ∧ σ 0 = .slice a k k) f.length ⟨Nat.le_refl _, rfl, rfl, rfl⟩ ?_
  rintro k σ H' ⟨h1, h2, rfl, h0⟩
  by_cases hk : k = 0
  · subst hk
    simp -dsimp only [go_sem, h0, Int.lt_irrefl]
    rw [show (trimZ f 0) = 0 from rfl] at h2
    rw [← h2] at hfin ⊢
    exact hfin
  · obtain ⟨j, rfl⟩ : ∃ j, k = j + 1 := ⟨k - 1, by omega⟩
    have hj : j < f.length := by omega
    obtain ⟨b, o, B, rfl, hB, hz, hg⟩ := hs.int j hj
    have e1 : IntKind.i64.wrap (((j + 1 : Nat) : Int) - 1) = (j : Int) := by rw [w64 (by omega) (by omega)]; omega
    have hp : (0 < ((j + 1 : Nat) : Int)) = True := by simp
    have hB2 := ilive_get hB
    have hjj : j < j + 1 := Nat.lt_succ_self j
    have hjj2 : j ≤ j + 1 := Nat.le_succ j
    have e3 : trimZ f (j + 1) = if f[j] = 0 then trimZ f j else j + 1 := by simp [trimZ, List.getD, hj]
    have kz := fun lk H' => r2_IsZero lk H' f[j]
    by_cases hz0 : f[j] = 0
    · rw [if_pos hz0] at e3
      rw [decide_eq_true hz0] at kz
      simp -dsimp only [go_sem, h0, hp, e1, hB, hB2, hz, hg, kz, hjj, hjj2]
      exact next j (by show j < j + 1; omega) ⟨by omega, by rw [← e3, h2], rfl, rfl⟩
    · rw [if_neg hz0] at e3
      rw [decide_eq_false hz0] at kz
      simp -dsimp only [go_sem, h0, hp, e1, hB, hB2, hz, hg, kz, hjj]
      rw [← h2, e3] at hfin ⊢
      exact hfin
theorem r11_Of (lk : Nat) (H : Heap) (a : Option Addr) (l : List MI) (n : Nat) (hn : n = l.length) (hl : n ≤ 100000) (hi : ∀ x ∈ l, I64 x.v) (hlast : l ≠ [] → cf (l.map (·.v)) (l.length - 1) ≠ 0) (hs : SL H a l) :
    gcall Tryz.prog md lk 81 [.slice a n n] H = some (.slice (mkA H (l.map (·.v))) (l.map (·.v)).length (l.map (·.v)).length, H ++ mkN (l.map (·.v))) := by
  subst hn
  refine gcall_own rfl Tryz.func81 rfl ?_
  simp -dsimp only [go_sem]
  refine r_loop (m := fun (s : Nat × Option Addr) => l.length - s.1) (I := fun s σ H' => s.1 ≤ l.length ∧ Ext H H' ∧ Own H.length H' s.2 ((l.take s.1).map (·.v)) ∧ (s.2 = none ↔ (l.take s.1).map (·.v) = []) ∧ σ 0 = .slice a l.length l.length ∧ σ 3 = .slice s.2 s.1 s.1 ∧ σ 4 = .int .i64 (s.1 : Int)) (0, none) ?_ ?_
  · exact ⟨Nat.zero_le _, Ext.refl _, Own.nil, by simp, rfl, rfl, rfl⟩
  · rintro ⟨i, a2⟩ σ H' ⟨h1, hE, hO, hN, h0, h3, h4⟩
    simp only [] at h1 hO hN h3 h4
    have hlt : ((l.take i).map (·.v)).length = i := by rw [List.length_map, List.length_take, Nat.min_eq_left h1]
    by_cases hil : i < l.length
    · have f1 : ((i : Int) < ((l.length : Nat) : Int)) = True := eq_true (by omega)
      obtain ⟨b, o, B, rfl, hB, hz, hg⟩ := hs.mi i hil
      have hB' := hE.live hB
      have hlo := hE.le
      have e7 : IntKind.i64.wrap ((i : Int) + 1) = ((i + 1 : Nat) : Int) := by rw [w64 (by omega) (by omega)]; omega
      have hk := fun lk H' => r2_FromInt lk H' l[i].v (hi _ (List.getElem_mem hil))
      have htk : (l.take (i + 1)).map (·.v) = (l.take i).map (·.v) ++ [l[i].v] := by rw [List.take_add_one, List.getElem?_eq_getElem hil, Option.toList_some, List.map_append]; rfl
      have hap := fun t t2 => ap_own (P := Tryz.prog) (lk := H.length) (t := t) (t2 := t2) hO (Nat.le_refl _) hlt.symm [.bool (decide (l[i].v < 0)), .string (mkS (bytes l[i].v.natAbs))] 2 rfl rfl
      have hO2 := own_ap (lo := H.length) (H := H') (a := a2) (l := (l.take i).map (·.v)) l[i].v [⟨[.bool (decide (l[i].v < 0)), .string (mkS (bytes l[i].v.natAbs))], 2, false⟩] (by simp; omega)
      have hE2 : Ext H (kill (H' ++ [⟨[.bool (decide (l[i].v < 0)), .string (mkS (bytes l[i].v.natAbs))], 2, false⟩]) a2) := (hO.more _).kill (hE.more _)
      rw [← htk] at hO2
      simp -dsimp only [go_sem, h0, h3, h4, f1, hB', hz, hg, hil, hk, e7, reps, hap, hlo]
      exact ⟨by omega, next (i + 1, some ⟨H'.length + 1, 0, none⟩) (by show l.length - (i + 1) < l.length - i; omega) ⟨hil, hE2.more _, hO2, by simp [htk], h0, rfl, rfl⟩⟩
    · have hi' : i = l.length := by omega
      subst hi'
      rw [List.take_length] at hO hN hlt
      have htr := fun lk => r11_Trim lk H' a2 (l.map (·.v)) l.length (by simp) (by omega) hO.sl
      have hfull := trimZ_full (l.map (·.v)) (by
        intro h
        rw [List.length_map]
        exact hlast (fun h2 => h (by rw [h2]; rfl)))
      rw [List.length_map] at hfull
      rw [hfull] at htr
      have hc := compV_mk hO (List.length_map _).symm hN (cells_kok (fun x => rfl) _)
      simp -dsimp only [go_sem, h0, h3, h4, Int.lt_irrefl, htr]
      rw [hc, List.length_map]
end Gx
end
section
set_option autoImplicit false
namespace Gx
open Go Go.Proofs
set_option maxRecDepth 10000
end Gx
end
section
set_option autoImplicit false
namespace Gx
open Go Go.Proofs
set_option maxRecDepth 10000
theorem pr2 : Pr 2 := by decide
theorem vp28 : vp 2 8 = 3 := by simp [vp]
theorem vp22 : vp 2 2 = 1 := by simp [vp]
theorem vp21 : vp 2 1 = 0 := by simp [vp]
theorem vp24 : vp 2 4 = 2 := by simp [vp]
theorem aw_pts1 : pts 2 [8, 2, 1] = [⟨0, 3⟩, ⟨1, 1⟩, ⟨2, 0⟩] := by simp [pts, ptsFrom, vp28, vp22, vp21]
theorem aw_pts2 : pts 2 [2, 4, 0, 1] = [⟨0, 1⟩, ⟨1, 2⟩, ⟨3, 0⟩] := by simp [pts, ptsFrom, vp24, vp22, vp21]
theorem aw_hull1 : hull (pts 2 [8, 2, 1]) = [⟨0, 3⟩, ⟨1, 1⟩, ⟨2, 0⟩] := by rw [aw_pts1]; decide
theorem aw_hull2 : hull (pts 2 [2, 4, 0, 1]) = [⟨0, 1⟩, ⟨3, 0⟩] := by rw [aw_pts2]; decide
theorem aw_sides2 : sidesOf (hull (pts 2 [2, 4, 0, 1])) = [⟨Rat.divInt (-1) 3, 3⟩] := by rw [aw_hull2]; rfl
theorem third : (Rat.divInt (-1) 3).num = -1 ∧ (Rat.divInt (-1) 3).den = 3 := by decide
theorem half : (Rat.divInt (-1) 2).num = -1 ∧ (Rat.divInt (-1) 2).den = 2 := by decide
theorem aw_pure : pureB 2 [2, 4, 0, 1] = true := by
  unfold pureB
  rw [aw_sides2]
  simp only [third.2]
  decide
theorem aw_ck : ckS [⟨Rat.divInt (-1) 2, 4⟩] = 0 := by
  unfold ckS
  have h1 : oneE ⟨Rat.divInt (-1) 2, 4⟩ = 0 := by
    unfold oneE
    simp only [half.2]
    decide
  have h2 : oneFirst [⟨Rat.divInt (-1) 2, 4⟩] = 0 := by
    unfold oneFirst
    rw [if_neg (fun h => h h1)]; rfl
  have h3 : asc [⟨Rat.divInt (-1) 2, 4⟩] := fun i h => by simp at h
  rw [if_neg (by decide), h2, if_neg (by decide), if_neg (fun h => h h3), if_neg (by decide)]
theorem aw_degs : degs [⟨Rat.divInt (-1) 2, 4⟩] = [⟨0⟩, ⟨2⟩, ⟨4⟩] := by
  unfold degs mayOf
  simp only [List.foldl_cons, List.foldl_nil, half.2]
  decide
theorem okP1 : OkP [8, 2, 1] := ⟨by decide, by
  intro z hz
  have : (bytes z.natAbs).length ≤ 8 := bl_small (by simp at hz; omega)
  omega, fun h => by simp⟩
theorem okP2 : OkP [2, 4, 0, 1] := ⟨by decide, by
  intro z hz
  have : (bytes z.natAbs).length ≤ 8 := bl_small (by simp at hz; omega)
  omega, fun h => by simp⟩
theorem bl_i (a b c : Int) : lblk [(⟨a⟩ : MI), ⟨b⟩, ⟨c⟩] = ⟨[.int .i64 a, .int .i64 b, .int .i64 c], 1, false⟩ := rfl
theorem bl_i4 (a b c d : Int) : lblk [(⟨a⟩ : MI), ⟨b⟩, ⟨c⟩, ⟨d⟩] = ⟨[.int .i64 a, .int .i64 b, .int .i64 c, .int .i64 d], 1, false⟩ := rfl
theorem bl_v3 (a b c d e f : Int) : lblk [(⟨a, b⟩ : Vtx), ⟨c, d⟩, ⟨e, f⟩] = ⟨[.int .i64 a, .int .i64 b, .int .i64 c, .int .i64 d, .int .i64 e, .int .i64 f], 2, false⟩ := rfl
theorem bl_s1 (q : Rat) (n : Int) : lblk [(⟨q, n⟩ : Sd)] = ⟨[.bool (decide (q.num < 0)), .string (mkS (bytes q.num.natAbs)), .string (mkS (bytes q.den)), .int .i64 n], 4, false⟩ := rfl
theorem nil_mk {α : Type} [Enc α] (x : α) (l : List α) : mkN (x :: l) = [lblk (x :: l)] := rfl
theorem nil_ma {α : Type} (H : Heap) (x : α) (l : List α) : mkA H (x :: l) = some ⟨H.length, 0, none⟩ := rfl
theorem l13_awake (lk : Nat) (H : Heap) : gcall Tryz.prog md lk 13 [] H = some (.bool true, H) := by
  refine gcall_val rfl Tryz.func13 rfl rfl ?_
  have b1 := bl_i 8 2 1
  have b2 := bl_i4 2 4 0 1
  have b3 := bl_s1 (Rat.divInt (-1) 2) 4
  have b4 := bl_v3 0 3 1 1 2 0
  have b5 := bl_s1 (Rat.divInt (-1) 3) 3
  have b6 := bl_i 0 2 4
  have k1 := fun lk => r11_Of lk (H ++ [lblk [(⟨8⟩ : MI), ⟨2⟩, ⟨1⟩]]) (some ⟨H.length, 0, none⟩) [⟨8⟩, ⟨2⟩, ⟨1⟩] 3 rfl (by decide) (by intro x hx; simp at hx; rcases hx with rfl | rfl | rfl <;> decide) (by intro _; decide) (SL.blk (ilive_new _ _))
  simp only [List.map_cons, List.map_nil, nil_mk, nil_ma, List.append_assoc, List.cons_append, List.nil_append] at k1
  have k2 := fun lk => (p_Vertices lk (H ++ [lblk [(⟨8⟩ : MI), ⟨2⟩, ⟨1⟩], lblk [(8 : Int), 2, 1]]) (some ⟨H.length + 1, 0, none⟩) ([(8 : Int), 2, 1].map ofI) 3 2 rfl (by decide) (SL.toI (SL.blk (by simp -dsimp only [go_sem, lblk])))).2 [8, 2, 1] 2 rfl rfl okP1 (by decide) (by decide) pr2 (by decide)
  rw [aw_hull1] at k2
  simp only [nil_mk, nil_ma, List.append_assoc, List.cons_append, List.nil_append] at k2
  have k3 := fun lk => r11_Of lk (H ++ [lblk [(⟨8⟩ : MI), ⟨2⟩, ⟨1⟩], lblk [(8 : Int), 2, 1], lblk [(⟨0, 3⟩ : Vtx), ⟨1, 1⟩, ⟨2, 0⟩], lblk [(⟨2⟩ : MI), ⟨4⟩, ⟨0⟩, ⟨1⟩]]) (some ⟨H.length + 3, 0, none⟩) [⟨2⟩, ⟨4⟩, ⟨0⟩, ⟨1⟩] 4 rfl (by decide) (by intro x hx; simp at hx; rcases hx with rfl | rfl | rfl | rfl <;> decide) (by intro _; decide) (SL.blk (by simp -dsimp only [go_sem, lblk]))
  simp only [List.map_cons, List.map_nil, nil_mk, nil_ma, List.append_assoc, List.cons_append, List.nil_append] at k3
  have k4 := fun lk => (p_Sides lk (H ++ [lblk [(⟨8⟩ : MI), ⟨2⟩, ⟨1⟩], lblk [(8 : Int), 2, 1], lblk [(⟨0, 3⟩ : Vtx), ⟨1, 1⟩, ⟨2, 0⟩], lblk [(⟨2⟩ : MI), ⟨4⟩, ⟨0⟩, ⟨1⟩], lblk [(2 : Int), 4, 0, 1]]) (some ⟨H.length + 4, 0, none⟩) ([(2 : Int), 4, 0, 1].map ofI) 4 2 rfl (by decide) (SL.toI (SL.blk (by simp -dsimp only [go_sem, lblk])))).2 [2, 4, 0, 1] 2 rfl rfl okP2 (by decide) (by decide) pr2 (by decide)
  rw [aw_sides2] at k4
  simp only [nil_mk, nil_ma, List.append_assoc, List.cons_append, List.nil_append] at k4
  rw [b1] at k1 k2 k3 k4
  rw [b2] at k3 k4
  have k5 := fun lk => r11_Of lk (H ++ [lblk [(⟨8⟩ : MI), ⟨2⟩, ⟨1⟩], lblk [(8 : Int), 2, 1], lblk [(⟨0, 3⟩ : Vtx), ⟨1, 1⟩, ⟨2, 0⟩], lblk [(⟨2⟩ : MI), ⟨4⟩, ⟨0⟩, ⟨1⟩], lblk [(2 : Int), 4, 0, 1], lblk [(⟨Rat.divInt (-1) 3, 3⟩ : Sd)], lblk [(⟨2⟩ : MI), ⟨4⟩, ⟨0⟩, ⟨1⟩]]) (some ⟨H.length + 6, 0, none⟩) [⟨2⟩, ⟨4⟩, ⟨0⟩, ⟨1⟩] 4 rfl (by decide) (by intro x hx; simp at hx; rcases hx with rfl | rfl | rfl | rfl <;> decide) (by intro _; decide) (SL.blk (by simp -dsimp only [go_sem, lblk]))
  simp only [List.map_cons, List.map_nil, nil_mk, nil_ma, List.append_assoc, List.cons_append, List.nil_append] at k5
  have k6 := fun lk => p_IsPure lk (H ++ [lblk [(⟨8⟩ : MI), ⟨2⟩, ⟨1⟩], lblk [(8 : Int), 2, 1], lblk [(⟨0, 3⟩ : Vtx), ⟨1, 1⟩, ⟨2, 0⟩], lblk [(⟨2⟩ : MI), ⟨4⟩, ⟨0⟩, ⟨1⟩], lblk [(2 : Int), 4, 0, 1], lblk [(⟨Rat.divInt (-1) 3, 3⟩ : Sd)], lblk [(⟨2⟩ : MI), ⟨4⟩, ⟨0⟩, ⟨1⟩], lblk [(2 : Int), 4, 0, 1]]) (some ⟨H.length + 7, 0, none⟩) [(2 : Int), 4, 0, 1] 2 4 rfl (SL.blk (by simp -dsimp only [go_sem, lblk])) okP2 (by decide) (by decide) pr2 (by decide)
  rw [aw_pure] at k6
  have k7 := fun lk H' => r3_Of lk H' (-1) 2 (by decide) (by decide) (by decide)
  have k8 := fun lk => (p_Degrees lk (H ++ [lblk [(⟨8⟩ : MI), ⟨2⟩, ⟨1⟩], lblk [(8 : Int), 2, 1], lblk [(⟨0, 3⟩ : Vtx), ⟨1, 1⟩, ⟨2, 0⟩], lblk [(⟨2⟩ : MI), ⟨4⟩, ⟨0⟩, ⟨1⟩], lblk [(2 : Int), 4, 0, 1], lblk [(⟨Rat.divInt (-1) 3, 3⟩ : Sd)], lblk [(⟨2⟩ : MI), ⟨4⟩, ⟨0⟩, ⟨1⟩], lblk [(2 : Int), 4, 0, 1], lblk [(⟨Rat.divInt (-1) 2, 4⟩ : Sd)]]) (some ⟨H.length + 8, 0, none⟩) [⟨Rat.divInt (-1) 2, 4⟩] 1 rfl (by decide) (by
    intro x hx
    simp only [List.mem_singleton] at hx
    subst hx
    unfold SmS
    simp only [half.1, half.2]
    refine ⟨?_, by decide⟩
    have : (bytes (-1 : Int).natAbs).length ≤ 8 := bl_small (by decide)
    omega) (SL.blk (by simp -dsimp only [go_sem, lblk]))).2 aw_ck
  rw [aw_degs] at k8
  simp only [nil_mk, nil_ma, List.append_assoc, List.cons_append, List.nil_append] at k8
  have k9 := fun lk => r13_SameVertices lk (H ++ [lblk [(⟨8⟩ : MI), ⟨2⟩, ⟨1⟩], lblk [(8 : Int), 2, 1], lblk [(⟨0, 3⟩ : Vtx), ⟨1, 1⟩, ⟨2, 0⟩], lblk [(⟨2⟩ : MI), ⟨4⟩, ⟨0⟩, ⟨1⟩], lblk [(2 : Int), 4, 0, 1], lblk [(⟨Rat.divInt (-1) 3, 3⟩ : Sd)], lblk [(⟨2⟩ : MI), ⟨4⟩, ⟨0⟩, ⟨1⟩], lblk [(2 : Int), 4, 0, 1], lblk [(⟨Rat.divInt (-1) 2, 4⟩ : Sd)], lblk [(⟨0⟩ : MI), ⟨2⟩, ⟨4⟩], lblk [(⟨0, 3⟩ : Vtx), ⟨1, 1⟩, ⟨2, 0⟩]]) (some ⟨H.length + 2, 0, none⟩) (some ⟨H.length + 10, 0, none⟩) [⟨0, 3⟩, ⟨1, 1⟩, ⟨2, 0⟩] [⟨0, 3⟩, ⟨1, 1⟩, ⟨2, 0⟩] 3 3 rfl rfl (by decide) (SL.blk (by simp -dsimp only [go_sem, lblk])) (SL.blk (by simp -dsimp only [go_sem, lblk]))
  have k10 := fun lk H' => r3_Of lk H' (-1) 3 (by decide) (by decide) (by decide)
  have k11 := fun lk => r13_Same lk (H ++ [lblk [(⟨8⟩ : MI), ⟨2⟩, ⟨1⟩], lblk [(8 : Int), 2, 1], lblk [(⟨0, 3⟩ : Vtx), ⟨1, 1⟩, ⟨2, 0⟩], lblk [(⟨2⟩ : MI), ⟨4⟩, ⟨0⟩, ⟨1⟩], lblk [(2 : Int), 4, 0, 1], lblk [(⟨Rat.divInt (-1) 3, 3⟩ : Sd)], lblk [(⟨2⟩ : MI), ⟨4⟩, ⟨0⟩, ⟨1⟩], lblk [(2 : Int), 4, 0, 1], lblk [(⟨Rat.divInt (-1) 2, 4⟩ : Sd)], lblk [(⟨0⟩ : MI), ⟨2⟩, ⟨4⟩], lblk [(⟨0, 3⟩ : Vtx), ⟨1, 1⟩, ⟨2, 0⟩], lblk [(⟨Rat.divInt (-1) 3, 3⟩ : Sd)]]) (some ⟨H.length + 5, 0, none⟩) (some ⟨H.length + 11, 0, none⟩) [⟨Rat.divInt (-1) 3, 3⟩] [⟨Rat.divInt (-1) 3, 3⟩] 1 1 rfl rfl (by decide) (SL.blk (by simp -dsimp only [go_sem, lblk])) (SL.blk (by simp -dsimp only [go_sem, lblk]))
  have k12 := fun lk => l13_same lk (H ++ [lblk [(⟨8⟩ : MI), ⟨2⟩, ⟨1⟩], lblk [(8 : Int), 2, 1], lblk [(⟨0, 3⟩ : Vtx), ⟨1, 1⟩, ⟨2, 0⟩], lblk [(⟨2⟩ : MI), ⟨4⟩, ⟨0⟩, ⟨1⟩], lblk [(2 : Int), 4, 0, 1], lblk [(⟨Rat.divInt (-1) 3, 3⟩ : Sd)], lblk [(⟨2⟩ : MI), ⟨4⟩, ⟨0⟩, ⟨1⟩], lblk [(2 : Int), 4, 0, 1], lblk [(⟨Rat.divInt (-1) 2, 4⟩ : Sd)], lblk [(⟨0⟩ : MI), ⟨2⟩, ⟨4⟩], lblk [(⟨0, 3⟩ : Vtx), ⟨1, 1⟩, ⟨2, 0⟩], lblk [(⟨Rat.divInt (-1) 3, 3⟩ : Sd)], lblk [(⟨0⟩ : MI), ⟨2⟩, ⟨4⟩]]) (some ⟨H.length + 9, 0, none⟩) (some ⟨H.length + 12, 0, none⟩) [⟨0⟩, ⟨2⟩, ⟨4⟩] [⟨0⟩, ⟨2⟩, ⟨4⟩] 3 3 rfl rfl (by decide) (SL.blk (by simp -dsimp only [go_sem, lblk])) (SL.blk (by simp -dsimp only [go_sem, lblk]))
  rw [decide_eq_true rfl] at k9 k11 k12
  simp only [b1] at k5 k6 k8 k9 k11 k12
  simp only [b2] at k5 k6 k8 k9 k11 k12
  simp only [b3] at k8 k9 k11 k12
  simp only [b4] at k2 k3 k4 k5 k6 k8 k9 k11 k12
  simp only [b5] at k4 k5 k6 k8 k9 k11 k12
  simp only [b6] at k8 k9 k11 k12
  have e2 : (((2 : Nat)) : Int) = 2 := rfl
  rw [e2] at k6
  simp -dsimp only [go_sem, reps, k1, k2, k3, k4, k5, k6, k7, k8, k9, k10, k11, k12]
end Gx
end
section
/- The lower hull. -/
set_option autoImplicit false
namespace Gx
/-- Where the slope from a to b is less than that from c to d. -/
def dd (a b c d : Vtx) : Int := (b.x - a.x) * (d.y - c.y) - (b.y - a.y) * (d.x - c.x)
theorem pos_of_mul {v t : Int} (hv : 0 < v) (h : 0 < v * t) : 0 < t := by
  apply Int.lt_of_not_ge
  intro ht
  have := Int.mul_le_mul_of_nonneg_left ht (Int.le_of_lt hv)
  rw [Int.mul_zero] at this; omega
theorem nonneg_of_mul {v t : Int} (hv : 0 < v) (h : 0 ≤ v * t) : 0 ≤ t := by
  apply Int.le_of_not_gt
  intro ht
  have := Int.mul_lt_mul_of_pos_left ht hv
  rw [Int.mul_zero] at this; omega
theorem tr_id (u v w p q r : Int) : v * (u * r - p * w) = u * (v * r - q * w) + w * (u * q - p * v) := by grind
theorem dd_lt {a b c d e f : Vtx} (h1 : a.x < b.x) (h2 : c.x < d.x) (h3 : e.x < f.x) (k1 : 0 < dd a b c d) (k2 : 0 < dd c d e f) : 0 < dd a b e f := by
  unfold dd at *
  refine pos_of_mul (v := d.x - c.x) (by omega) ?_
  rw [tr_id (b.x - a.x) (d.x - c.x) (f.x - e.x) (b.y - a.y) (d.y - c.y) (f.y - e.y)]
  have := Int.mul_pos (show 0 < b.x - a.x by omega) k2
  have := Int.mul_pos (show 0 < f.x - e.x by omega) k1
  omega
theorem dd_le_lt {a b c d e f : Vtx} (h1 : a.x < b.x) (h2 : c.x < d.x) (h3 : e.x < f.x) (k1 : 0 ≤ dd a b c d) (k2 : 0 < dd c d e f) : 0 < dd a b e f := by
  unfold dd at *
  refine pos_of_mul (v := d.x - c.x) (by omega) ?_
  rw [tr_id (b.x - a.x) (d.x - c.x) (f.x - e.x) (b.y - a.y) (d.y - c.y) (f.y - e.y)]
  have := Int.mul_pos (show 0 < b.x - a.x by omega) k2
  have := Int.mul_nonneg (show 0 ≤ f.x - e.x by omega) k1
  omega
theorem dd_lt_le {a b c d e f : Vtx} (h1 : a.x < b.x) (h2 : c.x < d.x) (h3 : e.x < f.x) (k1 : 0 < dd a b c d) (k2 : 0 ≤ dd c d e f) : 0 < dd a b e f := by
  unfold dd at *
  refine pos_of_mul (v := d.x - c.x) (by omega) ?_
  rw [tr_id (b.x - a.x) (d.x - c.x) (f.x - e.x) (b.y - a.y) (d.y - c.y) (f.y - e.y)]
  have := Int.mul_nonneg (show 0 ≤ b.x - a.x by omega) k2
  have := Int.mul_pos (show 0 < f.x - e.x by omega) k1
  omega
theorem dd_le {a b c d e f : Vtx} (h1 : a.x < b.x) (h2 : c.x < d.x) (h3 : e.x < f.x) (k1 : 0 ≤ dd a b c d) (k2 : 0 ≤ dd c d e f) : 0 ≤ dd a b e f := by
  unfold dd at *
  refine nonneg_of_mul (v := d.x - c.x) (by omega) ?_
  rw [tr_id (b.x - a.x) (d.x - c.x) (f.x - e.x) (b.y - a.y) (d.y - c.y) (f.y - e.y)]
  have := Int.mul_nonneg (show 0 ≤ b.x - a.x by omega) k2
  have := Int.mul_nonneg (show 0 ≤ f.x - e.x by omega) k1
  omega
theorem dd_anti (a b c d : Vtx) : dd a b c d = -dd c d a b := by unfold dd; grind
theorem dd_neg (a b c d : Vtx) : dd a b c d = -dd a b d c := by unfold dd; grind
theorem dd_add (a b c d e : Vtx) : dd a b c e = dd a b c d + dd a b d e := by unfold dd; grind
theorem dd_self (a b : Vtx) : dd a b a b = 0 := by unfold dd; grind
/-- The point c lies above the line from a to b where this is positive. -/
def cr (a b c : Vtx) : Int := dd a b b c
theorem cr_eq (a b c : Vtx) : cr a b c = dd a b a c := by
  unfold cr; rw [dd_add a b a b c, dd_self]; omega
theorem overB_cr (a b c : Vtx) : overB a b c = decide (cr a b c ≤ 0) := by
  unfold overB
  rw [cr_eq]
  apply decide_eq_decide.2
  unfold dd
  constructor
  · intro h
    have : (c.y - a.y) * (b.x - a.x) = (b.x - a.x) * (c.y - a.y) := Int.mul_comm _ _
    omega
  · intro h
    have : (c.y - a.y) * (b.x - a.x) = (b.x - a.x) * (c.y - a.y) := Int.mul_comm _ _
    omega
theorem cr_next {a b c d : Vtx} (h1 : a.x < b.x) (h2 : b.x < c.x) (h3 : c.x < d.x) (k1 : 0 < cr a b c) (k2 : 0 < cr b c d) : 0 < cr a b d := by
  unfold cr at *
  have := dd_lt h1 h2 h3 k1 k2
  rw [dd_add a b b c d]; omega
abbrev v0 : Vtx := ⟨0, 0⟩
/-- What holds of the hull of the points so far. -/
structure HI (l out : List Vtx) : Prop where
  sub : out.Sublist l
  chain : ∀ i, i + 2 < out.length → 0 < cr (out.getD i v0) (out.getD (i + 1) v0) (out.getD (i + 2) v0)
  above : ∀ i, i + 1 < out.length → ∀ k ∈ l, 0 ≤ cr (out.getD i v0) (out.getD (i + 1) v0) k
  first : ∀ k ∈ l, 0 < out.length ∧ (out.getD 0 v0).x ≤ k.x
  last : ∀ k ∈ l, k.x ≤ (out.getD (out.length - 1) v0).x
theorem popTo_spec (out : List Vtx) (x : Vtx) (n : Nat) : (0 < n → 1 ≤ popTo out x n) ∧ (2 ≤ popTo out x n → 0 < cr (out.getD (popTo out x n - 2) v0) (out.getD (popTo out x n - 1) v0) x) ∧
    (popTo out x n < n → 1 ≤ popTo out x n ∧ cr (out.getD (popTo out x n - 1) v0) (out.getD (popTo out x n) v0) x ≤ 0) := by
  induction n with
  | zero => exact ⟨fun h => by omega, fun h => by simp [popTo] at h, fun h => by simp [popTo] at h⟩
  | succ n ih =>
    cases n with
    | zero => exact ⟨fun _ => Nat.le_refl _, fun h => by simp [popTo] at h, fun h => by simp [popTo] at h⟩
    | succ k =>
      have e : popTo out x (k + 1 + 1) = if overB (out.getD k v0) (out.getD (k + 1) v0) x = true then popTo out x (k + 1) else k + 2 := rfl
      rw [overB_cr] at e
      by_cases hc : cr (out.getD k v0) (out.getD (k + 1) v0) x ≤ 0
      · rw [if_pos (decide_eq_true hc)] at e
        rw [e]
        refine ⟨fun _ => ih.1 (by omega), ih.2.1, fun h => ?_⟩
        have hle := popTo_le out x (k + 1)
        by_cases heq : popTo out x (k + 1) = k + 1
        · rw [heq, Nat.add_sub_cancel]; exact ⟨by omega, hc⟩
        · exact ih.2.2 (by omega)
      · rw [if_neg (by simpa using hc)] at e
        rw [e]
        exact ⟨fun _ => by omega, fun _ => by rw [Nat.add_sub_cancel, show k + 2 - 1 = k + 1 by omega]; omega, fun h => by omega⟩
theorem getD_mem {l : List Vtx} {i : Nat} (h : i < l.length) : l.getD i v0 ∈ l := by
  simp only [List.getD, List.getElem?_eq_getElem h, Option.getD_some]
  exact List.getElem_mem h
theorem inc_getD {l : List Vtx} (h : l.Pairwise (fun a b => a.x < b.x)) {i j : Nat} (hij : i < j) (hj : j < l.length) : (l.getD i v0).x < (l.getD j v0).x := by
  have hi : i < l.length := by omega
  simp only [List.getD, List.getElem?_eq_getElem hi, List.getElem?_eq_getElem hj, Option.getD_some]
  exact List.pairwise_iff_getElem.1 h i j hi hj hij
theorem inc_eq {l : List Vtx} (h : l.Pairwise (fun a b => a.x < b.x)) {a b : Vtx} (ha : a ∈ l) (hb : b ∈ l) (he : a.x = b.x) : a = b := by
  obtain ⟨i, hi, rfl⟩ := List.getElem_of_mem ha
  obtain ⟨j, hj, rfl⟩ := List.getElem_of_mem hb
  rcases Nat.lt_trichotomy i j with h1 | h1 | h1
  · have := List.pairwise_iff_getElem.1 h i j hi hj h1; omega
  · subst h1; rfl
  · have := List.pairwise_iff_getElem.1 h j i hj hi h1; omega
theorem HI.step {l out : List Vtx} {x : Vtx} (h : HI l out) (hl : l.Pairwise (fun a b => a.x < b.x)) (hx : ∀ k ∈ l, k.x < x.x) : HI (l ++ [x]) (hullStep out x) := by
  obtain ⟨s1, s2, s3⟩ := popTo_spec out x out.length
  have sle := popTo_le out x out.length
  have hol := hl.sublist h.sub
  have hmem : ∀ i, i < out.length → out.getD i v0 ∈ l := fun i hi => h.sub.subset (getD_mem hi)
  unfold hullStep
  generalize popTo out x out.length = m at *
  have hlen : (out.take m ++ [x]).length = m + 1 := by rw [List.length_append, List.length_take, Nat.min_eq_left sle]; rfl
  have hget : ∀ i, i < m → (out.take m ++ [x]).getD i v0 = out.getD i v0 := by
    intro i hi
    simp only [List.getD]
    rw [List.getElem?_append_left (by rw [List.length_take]; omega), List.getElem?_take_of_lt hi]
  have hgetx : (out.take m ++ [x]).getD m v0 = x := by
    simp only [List.getD]
    rw [List.getElem?_append_right (by rw [List.length_take]; omega), List.length_take, Nat.min_eq_left sle, Nat.sub_self]; rfl
  have hxabove : ∀ n i, i + 2 + n = m → 0 < cr (out.getD i v0) (out.getD (i + 1) v0) x := by
    intro n
    induction n with
    | zero =>
      intro i hi
      have := s2 (by omega)
      rw [show m - 2 = i by omega, show m - 1 = i + 1 by omega] at this
      exact this
    | succ n ih =>
      intro i hi
      have h1 := ih (i + 1) (by omega)
      exact cr_next (inc_getD hol (by omega) (by omega)) (inc_getD hol (by omega) (by omega)) (hx _ (hmem _ (by omega))) (h.chain i (by omega)) h1
  refine ⟨?_, ?_, ?_, ?_, ?_⟩
  · exact List.Sublist.append ((List.take_sublist _ _).trans h.sub) (List.Sublist.refl _)
  · intro i hi
    rw [hlen] at hi
    rw [hget i (by omega), hget (i + 1) (by omega)]
    by_cases h2 : i + 2 < m
    · rw [hget (i + 2) h2]; exact h.chain i (by omega)
    · rw [show i + 2 = m by omega, hgetx]; exact hxabove 0 i (by omega)
  · intro i hi k hk
    rw [hlen] at hi
    rw [hget i (by omega)]
    by_cases h2 : i + 1 < m
    · rw [hget (i + 1) h2]
      rcases List.mem_append.1 hk with hk | hk
      · exact h.above i (by omega) k hk
      · simp only [List.mem_singleton] at hk
        subst hk
        exact Int.le_of_lt (hxabove (m - (i + 2)) i (by omega))
    · have him : i + 1 = m := by omega
      rw [him, hgetx]
      have hvl := hmem i (by omega)
      have hvx := hx _ hvl
      rcases List.mem_append.1 hk with hk | hk
      · rcases Int.lt_trichotomy k.x (out.getD i v0).x with hc | hc | hc
        · -- k lies left of v
          by_cases hi0 : i = 0
          · subst hi0
            have := (h.first k hk).2
            omega
          · obtain ⟨j, rfl⟩ : ∃ j, i = j + 1 := ⟨i - 1, by omega⟩
            have h3 := h.above j (by omega) k hk
            have h4 := hxabove 0 j (by omega)
            have h5 := inc_getD hol (show j < j + 1 by omega) (by omega)
            generalize out.getD j v0 = u at *
            generalize out.getD (j + 1) v0 = v at *
            unfold cr at h3 h4
            have h6 : 0 ≤ dd k v u v := by
              rw [dd_anti, dd_neg]; omega
            have h7 := dd_le_lt hc h5 hvx h6 h4
            rw [cr_eq, dd_neg, dd_anti] ; omega
        · have := inc_eq hl hk hvl hc
          subst this
          rw [cr_eq]
          unfold dd
          simp
        · have hml : m < out.length := by
            apply Nat.lt_of_not_le
            intro hc2
            have := h.last k hk
            rw [show out.length - 1 = i by omega] at this
            omega
          obtain ⟨_, h8⟩ := s3 hml
          rw [show m - 1 = i by omega] at h8
          have h9 := h.above i (by omega) k hk
          rw [him] at h9
          have h10 := inc_getD hol (show i < m by omega) hml
          rw [cr_eq] at h8 h9 ⊢
          have h11 : 0 ≤ dd (out.getD i v0) x (out.getD i v0) (out.getD m v0) := by rw [dd_anti]; omega
          exact dd_le hvx h10 hc h11 h9
      · simp only [List.mem_singleton] at hk
        subst hk
        unfold cr dd
        simp
  · intro k hk
    rw [hlen]
    refine ⟨by omega, ?_⟩
    by_cases hm : m = 0
    · have hol0 : out.length = 0 := by
        apply Nat.eq_zero_of_not_pos
        intro h0
        have := s1 h0; omega
      have h0 : l = [] := by
        cases l with
        | nil => rfl
        | cons y r =>
          have := (h.first y (by simp)).1; omega
      subst h0
      simp only [List.nil_append, List.mem_singleton] at hk
      subst hk
      rw [hm] at hgetx
      rw [hm, hgetx]; exact Int.le_refl _
    · rw [hget 0 (by omega)]
      rcases List.mem_append.1 hk with hk | hk
      · exact (h.first k hk).2
      · simp only [List.mem_singleton] at hk
        subst hk
        exact Int.le_of_lt (hx _ (hmem 0 (by omega)))
  · intro k hk
    rw [hlen, Nat.add_sub_cancel, hgetx]
    rcases List.mem_append.1 hk with hk | hk
    · exact Int.le_of_lt (hx k hk)
    · simp only [List.mem_singleton] at hk
      subst hk; exact Int.le_refl _
end Gx
end
section
set_option autoImplicit false
namespace Gx
open Go Go.Proofs
set_option maxRecDepth 10000
end Gx
end
section
set_option autoImplicit false
namespace Gx
open Go Go.Proofs
set_option maxRecDepth 10000
/-- A slice that is not empty, with all it holds. -/
theorem SL.all {α : Type} [Enc α] {H : Heap} {a : Option Addr} {l : List α} (h : SL H a l) (h0 : 0 < l.length) : ∃ b o B, a = some ⟨b, o, none⟩ ∧ ilive H b = some B ∧ B.sz = Enc.n α ∧ ∀ i (hi : i < l.length), isub B.c (o + i * Enc.n α) (Enc.n α) = some (Enc.enc l[i]) := by
  obtain ⟨b, o, B, rfl, h2, h3, _⟩ := h.get 0 h0
  refine ⟨b, o, B, rfl, h2, h3, fun i hi => ?_⟩
  obtain ⟨b', o', B', he, h2', h3', h4'⟩ := h.get i hi
  cases he
  rw [h2] at h2'
  cases h2'
  exact h4'
end Gx
end
section
/- The lower hull by its definition. -/
set_option autoImplicit false
namespace Gx
/-- A point below all lines between a point on its left and one on its right. -/
def Low (l : List Vtx) (v : Vtx) : Prop := ∀ a ∈ l, ∀ c ∈ l, a.x < v.x → v.x < c.x → 0 < cr a v c
theorem between (n : Nat) (f : Nat → Int) (y : Int) (h0 : f 0 < y) (hn : y < f n) (hne : ∀ i, i ≤ n → f i ≠ y) : ∃ i, i < n ∧ f i < y ∧ y < f (i + 1) := by
  induction n with
  | zero => omega
  | succ n ih =>
    by_cases h : y < f n
    · obtain ⟨i, h1, h2⟩ := ih h (fun i hi => hne i (by omega))
      exact ⟨i, by omega, h2⟩
    · have := hne n (by omega)
      exact ⟨n, by omega, by omega, hn⟩
theorem HI.mem {l out : List Vtx} (h : HI l out) (hl : l.Pairwise (fun a b => a.x < b.x)) (v : Vtx) : v ∈ out ↔ v ∈ l ∧ Low l v := by
  have hol := hl.sublist h.sub
  have hmem : ∀ i, i < out.length → out.getD i v0 ∈ l := fun i hi => h.sub.subset (getD_mem hi)
  constructor
  · intro hv
    refine ⟨h.sub.subset hv, fun a ha c hc h1 h2 => ?_⟩
    obtain ⟨i, hi, rfl⟩ := List.getElem_of_mem hv
    have e : ∀ j (hj : j < out.length), out[j] = out.getD j v0 := fun j hj => by simp [List.getD, hj]
    rw [e i hi] at h1 h2 ⊢
    have hi0 : i ≠ 0 := by
      rintro rfl
      have := (h.first a ha).2; omega
    obtain ⟨j, rfl⟩ : ∃ j, i = j + 1 := ⟨i - 1, by omega⟩
    have hin : j + 2 < out.length := by
      apply Nat.lt_of_not_le
      intro hle
      have := h.last c hc
      rw [show out.length - 1 = j + 1 by omega] at this
      omega
    have k1 := h.above j (by omega) a ha
    have k2 := h.above (j + 1) (by omega) c hc
    have k3 := h.chain j hin
    have x1 := inc_getD hol (show j < j + 1 by omega) (by omega)
    have x2 := inc_getD hol (show j + 1 < j + 2 by omega) hin
    generalize out.getD j v0 = u at *
    generalize out.getD (j + 1) v0 = v at *
    rw [show j + 1 + 1 = j + 2 from rfl] at k2
    generalize out.getD (j + 2) v0 = w at *
    have k4 : 0 ≤ dd a v u v := by
      unfold cr at k1
      rw [dd_anti, dd_neg]; omega
    rw [cr_eq] at k2
    unfold cr at k3
    exact dd_lt_le h1 x2 h2 (dd_le_lt h1 x1 x2 k4 k3) k2
  · rintro ⟨hv, hlow⟩
    apply Classical.byContradiction
    intro hno
    have hne : ∀ i, i < out.length → (out.getD i v0).x ≠ v.x := by
      intro i hi he
      have := inc_eq hl (hmem i hi) hv he
      rw [← this] at hno
      exact hno (getD_mem hi)
    obtain ⟨f1, f2⟩ := h.first v hv
    have f3 := h.last v hv
    have := hne 0 f1
    have := hne (out.length - 1) (by omega)
    obtain ⟨i, h1, h2, h3⟩ := between (out.length - 1) (fun i => (out.getD i v0).x) v.x (by show (out.getD 0 v0).x < v.x; omega) (by show v.x < (out.getD (out.length - 1) v0).x; omega) (fun i hi => hne i (by omega))
    have k1 := h.above i (by omega) v hv
    have k2 := hlow _ (hmem i (by omega)) _ (hmem (i + 1) (by omega)) h2 h3
    rw [cr_eq] at k1 k2
    rw [dd_anti] at k2
    omega
end Gx
end
section
/- Newton polygons of polynomials that are scaled, stretched and reversed. -/
set_option autoImplicit false
namespace Gx
theorem vp_mul_pow {q n : Nat} (hq : 2 ≤ q) (hn : n ≠ 0) (k : Nat) : vp q (n * q ^ k) = vp q n + k := by
  induction k with
  | zero => simp
  | succ k ih =>
    have h1 : n * q ^ (k + 1) = n * q ^ k * q := by rw [Nat.pow_succ, Nat.mul_assoc]
    have h0 : n * q ^ k ≠ 0 := Nat.mul_ne_zero hn (Nat.ne_of_gt (Nat.pow_pos (by omega)))
    rw [h1, vp_step hq (Nat.mul_ne_zero h0 (by omega)) (Nat.mul_mod_left _ _), Nat.mul_div_cancel _ (by omega), ih]; omega
end Gx
end
section
/- Newton polygons of products. -/
set_option autoImplicit false
namespace Gx
theorem pr_dvd_mul {q a b : Nat} (hq : Pr q) (h : q ∣ a * b) : q ∣ a ∨ q ∣ b := by
  by_cases ha : q ∣ a
  · exact .inl ha
  · right
    have h2q := hq.1
    have hg : Nat.gcd q a = 1 := by
      have h1 := Nat.gcd_dvd_left q a
      have hpos : 0 < Nat.gcd q a := Nat.gcd_pos_of_pos_left _ (by omega)
      have hle := Nat.le_of_dvd (by omega) h1
      by_cases h2 : Nat.gcd q a = q
      · have h3 := Nat.gcd_dvd_right q a
        rw [h2] at h3
        exact absurd h3 ha
      · by_cases h3 : 2 ≤ Nat.gcd q a
        · exact absurd (Nat.mod_eq_zero_of_dvd h1) (hq.2 _ (by omega) h3)
        · omega
    exact Nat.Coprime.dvd_of_dvd_mul_left (show Nat.Coprime q a from hg) h
theorem vp_dvd {q n : Nat} (hq : 2 ≤ q) (hn : n ≠ 0) (e : Nat) : q ^ e ∣ n ↔ e ≤ vp q n := by
  constructor
  · rintro ⟨c, rfl⟩
    have hc : c ≠ 0 := by rintro rfl; simp at hn
    rw [Nat.mul_comm, vp_mul_pow hq hc]; omega
  · intro h
    obtain ⟨m, h1, _⟩ := vp_pow hq n hn
    conv => rhs; rw [h1]
    exact Nat.dvd_trans (Nat.pow_dvd_pow q h) (Nat.dvd_mul_left _ _)
theorem vp_mul {q a b : Nat} (hq : Pr q) (ha : a ≠ 0) (hb : b ≠ 0) : vp q (a * b) = vp q a + vp q b := by
  obtain ⟨m, h1, h2⟩ := vp_pow hq.1 a ha
  obtain ⟨m', h3, h4⟩ := vp_pow hq.1 b hb
  have e : a * b = (m * m') * q ^ (vp q a + vp q b) := by
    rw [Nat.pow_add]
    conv => lhs; rw [h1, h3]
    ac_rfl
  have hm : m * m' ≠ 0 := by
    intro h0
    rw [h0, Nat.zero_mul] at e
    exact Nat.mul_ne_zero ha hb e
  have hs : vp q (m * m') = 0 := by
    apply vp_stop
    intro h0
    rcases pr_dvd_mul hq (Nat.dvd_of_mod_eq_zero h0) with h | h
    · exact h2 (Nat.mod_eq_zero_of_dvd h)
    · exact h4 (Nat.mod_eq_zero_of_dvd h)
  conv => lhs; rw [e]
  rw [vp_mul_pow hq.1 hm, hs]; omega
/-- The exponent in an integer. -/
def vz (q : Nat) (z : Int) : Int := (vp q z.natAbs : Int)
theorem vz_dvd {q : Nat} (hq : 2 ≤ q) {z : Int} (hz : z ≠ 0) (e : Nat) : ((q ^ e : Nat) : Int) ∣ z ↔ (e : Int) ≤ vz q z := by
  rw [← Int.dvd_natAbs, Int.natCast_dvd_natCast, vp_dvd hq (by omega)]
  unfold vz; omega
theorem vz_mul {q : Nat} (hq : Pr q) {x y : Int} (hx : x ≠ 0) (hy : y ≠ 0) : vz q (x * y) = vz q x + vz q y := by
  unfold vz
  rw [Int.natAbs_mul, vp_mul hq (by omega) (by omega)]; omega
theorem vz_nn (q : Nat) (z : Int) : 0 ≤ vz q z := by unfold vz; omega
theorem sum_dvd {d : Int} {T : Nat → Int} {n : Nat} (h : ∀ i, i < n → d ∣ T i) : d ∣ sumTo T n := by
  induction n with
  | zero => exact Int.dvd_zero d
  | succ n ih => exact Int.dvd_add (ih fun i hi => h i (by omega)) (h n (by omega))
theorem lt_of_mul {t x y : Int} (ht : 0 < t) (h : t * x < t * y) : x < y := Int.lt_of_mul_lt_mul_left h (Int.le_of_lt ht)
theorem sum_vz {q : Nat} (hq : 2 ≤ q) {T : Nat → Int} {n : Nat} {t M : Int} (ht : 0 < t) (hne : sumTo T n ≠ 0) (h : ∀ i, i < n → T i ≠ 0 → M ≤ t * vz q (T i)) : M ≤ t * vz q (sumTo T n) := by
  apply Int.le_of_not_gt
  intro hlt
  have hd : ((q ^ ((vz q (sumTo T n)).toNat + 1) : Nat) : Int) ∣ sumTo T n := by
    apply sum_dvd
    intro i hi
    by_cases h0 : T i = 0
    · rw [h0]; exact Int.dvd_zero _
    · have h1 := h i hi h0
      have h2 := lt_of_mul ht (show t * vz q (sumTo T n) < t * vz q (T i) by omega)
      rw [vz_dvd hq h0]
      have := vz_nn q (sumTo T n)
      omega
  rw [vz_dvd hq hne] at hd
  have := vz_nn q (sumTo T n)
  omega
theorem sum_split (T : Nat → Int) (b n : Nat) (h : b < n) : sumTo T n = T b + sumTo (fun i => if i = b then 0 else T i) n := by
  induction n with
  | zero => omega
  | succ n ih =>
    rw [sumTo, sumTo]
    by_cases hb : b = n
    · subst hb
      rw [if_pos rfl, sumTo_congr (F := T) (G := fun i => if i = b then 0 else T i) (fun i hi => by rw [if_neg (by omega)])]
      omega
    · rw [ih (by omega), if_neg (Ne.symm hb)]; omega
theorem sum_exact {q : Nat} (hq : 2 ≤ q) {T : Nat → Int} {n b : Nat} (hb : b < n) (h0 : T b ≠ 0) (h : ∀ i, i < n → i ≠ b → T i ≠ 0 → vz q (T b) < vz q (T i)) : sumTo T n ≠ 0 ∧ vz q (sumTo T n) = vz q (T b) := by
  have hnn := vz_nn q (T b)
  have hR : ((q ^ ((vz q (T b)).toNat + 1) : Nat) : Int) ∣ sumTo (fun i => if i = b then 0 else T i) n := by
    apply sum_dvd
    intro i hi
    by_cases hib : i = b
    · rw [if_pos hib]; exact Int.dvd_zero _
    · rw [if_neg hib]
      by_cases h1 : T i = 0
      · rw [h1]; exact Int.dvd_zero _
      · rw [vz_dvd hq h1]
        have := h i hi hib h1
        omega
  have hs := sum_split T b n hb
  have hnot : ¬ ((q ^ ((vz q (T b)).toNat + 1) : Nat) : Int) ∣ sumTo T n := by
    intro hd
    have h2 := Int.dvd_sub hd hR
    rw [hs, Int.add_sub_cancel, vz_dvd hq h0] at h2
    omega
  have hne : sumTo T n ≠ 0 := by
    intro h0
    rw [h0] at hnot
    exact hnot (Int.dvd_zero _)
  refine ⟨hne, ?_⟩
  have hlow : ((q ^ (vz q (T b)).toNat : Nat) : Int) ∣ sumTo T n := by
    rw [hs]
    refine Int.dvd_add ((vz_dvd hq h0 _).2 (by omega)) (Int.dvd_trans ?_ hR)
    exact Int.natCast_dvd_natCast.2 (Nat.pow_dvd_pow q (by omega))
  rw [vz_dvd hq hne] at hlow hnot
  omega
/-- The weight of a coefficient. -/
def wt (q : Nat) (f : List Int) (s t : Int) (i : Nat) : Int := t * vz q (cf f i) - s * (i : Int)
/-- Where the weight is least: m is the least weight, a the first place and b the last one. -/
structure Edge (q : Nat) (f : List Int) (s t m : Int) (a b : Nat) : Prop where
  ab : a ≤ b
  a0 : cf f a ≠ 0
  b0 : cf f b ≠ 0
  wa : wt q f s t a = m
  wb : wt q f s t b = m
  ge : ∀ i, cf f i ≠ 0 → m ≤ wt q f s t i
  lo : ∀ i, i < a → cf f i ≠ 0 → m < wt q f s t i
  hi : ∀ i, b < i → cf f i ≠ 0 → m < wt q f s t i
theorem Edge.uniq {q : Nat} {f : List Int} {s t m m' : Int} {a b a' b' : Nat} (h : Edge q f s t m a b) (h' : Edge q f s t m' a' b') : m = m' ∧ a = a' ∧ b = b' := by
  have h1 := h.ge a' h'.a0
  have h2 := h'.ge a h.a0
  rw [h'.wa] at h1
  rw [h.wa] at h2
  have hm : m = m' := by omega
  subst hm
  refine ⟨rfl, ?_, ?_⟩
  · rcases Nat.lt_trichotomy a a' with h3 | h3 | h3
    · have := h'.lo a h3 h.a0; have := h.wa; omega
    · exact h3
    · have := h.lo a' h3 h'.a0; have := h'.wa; omega
  · rcases Nat.lt_trichotomy b b' with h3 | h3 | h3
    · have := h.hi b' h3 h'.b0; have := h'.wb; omega
    · exact h3
    · have := h'.hi b h3 h.b0; have := h.wb; omega
theorem cf_mulP (f g : List Int) (k : Nat) : cf (mulP f g) k = mulC f g k := by
  by_cases h : k < (mulP f g).length
  · rw [cf_lt h]; simp [mulP]
  · rw [cf_ge (by omega)]
    rw [mulP_len] at h
    unfold mulC
    rw [sumTo_zero]
    intro i hi
    unfold mulT
    split
    · rw [cf_ge (f := g) (by omega), Int.mul_zero]
    · rfl
theorem mulT_ne {f g : List Int} {k i : Nat} (h : mulT f g k i ≠ 0) : i ≤ k ∧ cf f i ≠ 0 ∧ cf g (k - i) ≠ 0 := by
  unfold mulT at h
  by_cases hi : i ≤ k
  · rw [if_pos hi] at h
    exact ⟨hi, fun h0 => h (by rw [h0, Int.zero_mul]), fun h0 => h (by rw [h0, Int.mul_zero])⟩
  · rw [if_neg hi] at h; exact absurd rfl h
theorem mulT_wt {q : Nat} (hq : Pr q) {f g : List Int} {k i : Nat} {s t : Int} (h : mulT f g k i ≠ 0) : t * vz q (mulT f g k i) - s * (k : Int) = wt q f s t i + wt q g s t (k - i) := by
  obtain ⟨h1, h2, h3⟩ := mulT_ne h
  unfold mulT wt
  rw [if_pos h1, vz_mul hq h2 h3, Int.mul_add, Int.ofNat_sub h1, Int.mul_sub]
  omega
theorem cf_ne_lt {f : List Int} {i : Nat} (h : cf f i ≠ 0) : i < f.length := by
  apply Nat.lt_of_not_le
  intro hle
  exact h (cf_ge hle)
theorem Edge.mul {q : Nat} (hq : Pr q) {f g : List Int} {s t m m' : Int} {a b a' b' : Nat} (ht : 0 < t) (h : Edge q f s t m a b) (h' : Edge q g s t m' a' b') : Edge q (mulP f g) s t (m + m') (a + a') (b + b') := by
  have key : ∀ c c', cf f c ≠ 0 → cf g c' ≠ 0 → wt q f s t c = m → wt q g s t c' = m' → (∀ i, i ≤ c + c' → i ≠ c → cf f i ≠ 0 → cf g (c + c' - i) ≠ 0 → m + m' < wt q f s t i + wt q g s t (c + c' - i)) → cf (mulP f g) (c + c') ≠ 0 ∧ wt q (mulP f g) s t (c + c') = m + m' := by
    intro c c' h1 h2 h3 h4 h5
    have e : mulT f g (c + c') c = cf f c * cf g c' := by
      unfold mulT; rw [if_pos (by omega), Nat.add_sub_cancel_left]
    have hne : mulT f g (c + c') c ≠ 0 := by rw [e]; exact Int.mul_ne_zero h1 h2
    have hw := mulT_wt hq (s := s) (t := t) hne
    rw [Nat.add_sub_cancel_left, h3, h4] at hw
    obtain ⟨r1, r2⟩ := sum_exact hq.1 (T := mulT f g (c + c')) (n := f.length) (b := c) (cf_ne_lt h1) hne (fun i hi hic hti => by
      obtain ⟨u1, u2, u3⟩ := mulT_ne hti
      have u4 := h5 i u1 hic u2 u3
      rw [← mulT_wt hq (s := s) (t := t) hti] at u4
      exact lt_of_mul ht (by omega))
    unfold wt
    rw [cf_mulP]
    unfold mulC
    refine ⟨r1, ?_⟩
    rw [r2]; exact hw
  have kge : ∀ k M, cf (mulP f g) k ≠ 0 → (∀ i, i ≤ k → cf f i ≠ 0 → cf g (k - i) ≠ 0 → M ≤ wt q f s t i + wt q g s t (k - i)) → M ≤ wt q (mulP f g) s t k := by
    intro k M h1 h2
    unfold wt
    rw [cf_mulP] at h1 ⊢
    unfold mulC at h1 ⊢
    have := sum_vz hq.1 (T := mulT f g k) (n := f.length) (t := t) (M := M + s * (k : Int)) ht h1 (fun i hi hti => by
      obtain ⟨u1, u2, u3⟩ := mulT_ne hti
      have u4 := h2 i u1 u2 u3
      rw [← mulT_wt hq (s := s) (t := t) hti] at u4
      omega)
    omega
  obtain ⟨x1, x2⟩ := key a a' h.a0 h'.a0 h.wa h'.wa (fun i hi hne u1 u2 => by
    have v1 := h.ge i u1
    have v2 := h'.ge _ u2
    rcases Nat.lt_or_gt_of_ne hne with h3 | h3
    · have := h.lo i h3 u1; omega
    · have := h'.lo (a + a' - i) (by omega) u2; omega)
  obtain ⟨y1, y2⟩ := key b b' h.b0 h'.b0 h.wb h'.wb (fun i hi hne u1 u2 => by
    have v1 := h.ge i u1
    have v2 := h'.ge _ u2
    rcases Nat.lt_or_gt_of_ne hne with h3 | h3
    · have := h'.hi (b + b' - i) (by omega) u2; omega
    · have := h.hi i h3 u1; omega)
  refine ⟨Nat.add_le_add h.ab h'.ab, x1, y1, x2, y2, fun k hk => ?_, fun k hlt hk => ?_, fun k hlt hk => ?_⟩
  · exact kge k _ hk (fun i hi u1 u2 => by have := h.ge i u1; have := h'.ge _ u2; omega)
  · have := kge k (m + m' + 1) hk (fun i hi u1 u2 => by
      have v1 := h.ge i u1
      have v2 := h'.ge _ u2
      by_cases h3 : i < a
      · have := h.lo i h3 u1; omega
      · have := h'.lo (k - i) (by omega) u2; omega)
    omega
  · have := kge k (m + m' + 1) hk (fun i hi u1 u2 => by
      have v1 := h.ge i u1
      have v2 := h'.ge _ u2
      by_cases h3 : b < i
      · have := h.hi i h3 u1; omega
      · have := h'.hi (k - i) (by omega) u2; omega)
    omega
end Gx
end
section
/- The sides of a polygon are where the weights are least. -/
set_option autoImplicit false
namespace Gx
/-- The weight of a point. -/
def W (s t : Int) (v : Vtx) : Int := t * v.y - s * v.x
end Gx
end
section
/- The polygon of a product of linear polynomials. -/
set_option autoImplicit false
namespace Gx
theorem sd_ext {a b : List Sd} (ha : a.Pairwise (fun u v => u.s < v.s)) (hb : b.Pairwise (fun u v => u.s < v.s)) (h : ∀ v, v ∈ a ↔ v ∈ b) : a = b := by
  have irr : ∀ x : Rat, ¬ x < x := fun x => Rat.lt_irrefl
  induction a generalizing b with
  | nil =>
    cases b with
    | nil => rfl
    | cons y s => exact absurd ((h y).2 (by simp)) (by simp)
  | cons x r ih =>
    cases b with
    | nil => exact absurd ((h x).1 (by simp)) (by simp)
    | cons y s =>
      rw [List.pairwise_cons] at ha hb
      have hxy : x = y := by
        have h1 := (h x).1 (by simp)
        have h2 := (h y).2 (by simp)
        rcases List.mem_cons.1 h1 with h1 | h1
        · exact h1
        · rcases List.mem_cons.1 h2 with h2 | h2
          · exact h2.symm
          · exact absurd (Std.lt_trans (hb.1 _ h1) (ha.1 _ h2)) (irr _)
      subst hxy
      congr 1
      refine ih ha.2 hb.2 fun v => ⟨fun hv => ?_, fun hv => ?_⟩
      · rcases List.mem_cons.1 ((h v).1 (List.mem_cons_of_mem _ hv)) with h1 | h1
        · subst h1; exact absurd (ha.1 _ hv) (irr _)
        · exact h1
      · rcases List.mem_cons.1 ((h v).2 (List.mem_cons_of_mem _ hv)) with h1 | h1
        · subst h1; exact absurd (hb.1 _ hv) (irr _)
        · exact h1
end Gx
end
section
/- The sides of a product are the sum of the sides. -/
set_option autoImplicit false
namespace Gx
end Gx
end
section
/- Sums of lists of sides. -/
set_option autoImplicit false
namespace Gx
/-- The sum of the lengths with a slope. -/
def sumAt : List Sd → Rat → Int
  | [], _ => 0
  | x :: l, r => (if x.s = r then x.n else 0) + sumAt l r
theorem sumAt_app (a b : List Sd) (r : Rat) : sumAt (a ++ b) r = sumAt a r + sumAt b r := by
  induction a with
  | nil => simp [sumAt]
  | cons x l ih => rw [List.cons_append, sumAt, sumAt, ih]; omega
theorem sumAt_perm {a b : List Sd} (h : a.Perm b) (r : Rat) : sumAt a r = sumAt b r := by
  induction h with
  | nil => rfl
  | cons x _ ih => rw [sumAt, sumAt, ih]
  | swap x y l => simp only [sumAt]; omega
  | trans _ _ h1 h2 => rw [h1, h2]
theorem sumAt_none {l : List Sd} {r : Rat} (h : ∀ x ∈ l, x.s ≠ r) : sumAt l r = 0 := by
  induction l with
  | nil => rfl
  | cons x l ih =>
    rw [sumAt, if_neg (h x (by simp)), ih (fun y hy => h y (List.mem_cons_of_mem _ hy))]; rfl
theorem sumAt_mem {l : List Sd} (h : l.Pairwise (fun u v => u.s < v.s)) {x : Sd} (hx : x ∈ l) : sumAt l x.s = x.n := by
  induction l with
  | nil => simp at hx
  | cons y r ih =>
    rw [List.pairwise_cons] at h
    rw [sumAt]
    rcases List.mem_cons.1 hx with rfl | hx
    · rw [if_pos rfl, sumAt_none]
      · omega
      · intro z hz e
        have := h.1 z hz
        rw [e] at this
        exact Rat.lt_irrefl this
    · have hne : y.s ≠ x.s := fun e => by
        have := h.1 x hx
        rw [e] at this
        exact Rat.lt_irrefl this
      rw [if_neg hne, ih h.2 hx]; omega
/-- Lists that ascend, with positive lengths, are known by their sums. -/
theorem sums_ext {a b : List Sd} (ha : a.Pairwise (fun u v => u.s < v.s)) (hb : b.Pairwise (fun u v => u.s < v.s)) (pa : ∀ x ∈ a, 0 < x.n) (pb : ∀ x ∈ b, 0 < x.n) (h : ∀ r, sumAt a r = sumAt b r) : a = b := by
  have key : ∀ {a b : List Sd}, a.Pairwise (fun u v => u.s < v.s) → b.Pairwise (fun u v => u.s < v.s) → (∀ x ∈ a, 0 < x.n) → (∀ r, sumAt a r = sumAt b r) → ∀ v, v ∈ a → v ∈ b := by
    intro a b ha hb pa h v hv
    have h1 := h v.s
    rw [sumAt_mem ha hv] at h1
    have h2 := pa v hv
    by_cases hx : ∃ x ∈ b, x.s = v.s
    · obtain ⟨x, hx, hs⟩ := hx
      rw [← hs, sumAt_mem hb hx] at h1
      have : v = x := by
        cases v; cases x
        simp only [] at hs h1
        rw [hs, h1]
      rw [this]; exact hx
    · rw [sumAt_none (fun x h3 h4 => hx ⟨x, h3, h4⟩)] at h1
      omega
  exact sd_ext ha hb fun v => ⟨key ha hb pa h v, key hb ha pb (fun r => (h r).symm) v⟩
/-- Neighbours with one slope are put together. -/
def mgStep (out : List Sd) (x : Sd) : List Sd := match out.getLast? with
  | some y => if y.s = x.s then out.dropLast ++ [⟨y.s, y.n + x.n⟩] else out ++ [x]
  | none => [x]
def mg (l : List Sd) : List Sd := l.foldl mgStep []
theorem mg_app (l : List Sd) (x : Sd) : mg (l ++ [x]) = mgStep (mg l) x := by
  unfold mg; rw [List.foldl_append]; rfl
theorem mg_ok (l : List Sd) (hs : l.Pairwise (fun u v => u.s ≤ v.s)) (hp : ∀ x ∈ l, 0 < x.n) :
    (mg l).Pairwise (fun u v => u.s < v.s) ∧ (∀ x ∈ mg l, 0 < x.n) ∧ (∀ r, sumAt (mg l) r = sumAt l r) ∧ (∀ y ∈ mg l, ∃ x ∈ l, y.s = x.s) := by
  have : ∀ n, n ≤ l.length → (mg (l.take n)).Pairwise (fun u v => u.s < v.s) ∧ (∀ x ∈ mg (l.take n), 0 < x.n) ∧ (∀ r, sumAt (mg (l.take n)) r = sumAt (l.take n) r) ∧ (∀ y ∈ mg (l.take n), ∃ x ∈ l.take n, y.s = x.s) := by
    intro n
    induction n with
    | zero => intro _; exact ⟨List.Pairwise.nil, fun x h => by simp [mg] at h, fun r => rfl, fun x h => by simp [mg] at h⟩
    | succ n ih =>
      intro hn
      obtain ⟨h1, h2, h3, h4⟩ := ih (by omega)
      have hx := hp l[n] (List.getElem_mem _)
      have hle : ∀ y ∈ mg (l.take n), y.s ≤ l[n].s := by
        intro y hy
        obtain ⟨x, hx, e⟩ := h4 y hy
        rw [e]
        obtain ⟨i, hi, rfl⟩ := List.getElem_of_mem hx
        rw [List.length_take] at hi
        rw [List.getElem_take]
        exact List.pairwise_iff_getElem.1 hs i n (by omega) (by omega) (by omega)
      have et : l.take (n + 1) = l.take n ++ [l[n]] := by
        rw [List.take_add_one, List.getElem?_eq_getElem (by omega), Option.toList_some]
      rw [et, mg_app]
      generalize mg (l.take n) = out at *
      generalize l.take n = pre at *
      generalize l[n] = x at *
      unfold mgStep
      rcases List.eq_nil_or_concat out with rfl | ⟨o, y, rfl⟩
      · simp only [List.getLast?_nil]
        refine ⟨List.pairwise_singleton _ _, fun z hz => by simp at hz; rw [hz]; exact hx, fun r => ?_, fun z hz => ⟨x, by simp, by simp at hz; rw [hz]⟩⟩
        have := h3 r
        rw [sumAt_app, ← this]; simp [sumAt]
      · rw [List.concat_eq_append] at *
        simp only [List.getLast?_append, List.getLast?_singleton, Option.some_or, List.dropLast_concat]
        rw [List.pairwise_append] at h1
        obtain ⟨p1, _, p3⟩ := h1
        by_cases he : y.s = x.s
        · rw [if_pos he]
          refine ⟨?_, fun z hz => ?_, fun r => ?_, fun z hz => ?_⟩
          · rw [List.pairwise_append]
            exact ⟨p1, List.pairwise_singleton _ _, fun u hu v hv => by simp at hv; rw [hv]; exact p3 u hu y (by simp)⟩
          · rcases List.mem_append.1 hz with hz | hz
            · exact h2 z (List.mem_append_left _ hz)
            · simp at hz
              have := h2 y (by simp)
              rw [hz]; show 0 < y.n + x.n; omega
          · have := h3 r
            rw [sumAt_app] at this
            rw [sumAt_app, sumAt_app, ← this]
            simp only [sumAt, ← he]
            split <;> omega
          · rcases List.mem_append.1 hz with hz | hz
            · obtain ⟨w, hw, e⟩ := h4 z (List.mem_append_left _ hz)
              exact ⟨w, List.mem_append_left _ hw, e⟩
            · simp at hz
              exact ⟨x, by simp, by rw [hz]; exact he⟩
        · rw [if_neg he]
          refine ⟨?_, fun z hz => ?_, fun r => ?_, fun z hz => ?_⟩
          · rw [List.pairwise_append, List.pairwise_append]
            refine ⟨⟨p1, List.pairwise_singleton _ _, p3⟩, List.pairwise_singleton _ _, fun u hu v hv => ?_⟩
            simp only [List.mem_singleton] at hv
            rw [hv]
            have hyx : y.s < x.s := Rat.not_le.1 (fun h => he (Rat.le_antisymm (hle y (by simp)) h))
            rcases List.mem_append.1 hu with hu | hu
            · exact Std.lt_trans (p3 u hu y (by simp)) hyx
            · simp only [List.mem_singleton] at hu
              rw [hu]; exact hyx
          · rcases List.mem_append.1 hz with hz | hz
            · exact h2 z hz
            · simp at hz; rw [hz]; exact hx
          · rw [sumAt_app (o ++ [y]), sumAt_app pre, h3 r]
          · rcases List.mem_append.1 hz with hz | hz
            · obtain ⟨w, hw, e⟩ := h4 z hz
              exact ⟨w, List.mem_append_left _ hw, e⟩
            · simp at hz
              exact ⟨x, by simp, by rw [hz]⟩
  have := this l.length (Nat.le_refl _)
  rwa [List.take_length] at this
end Gx
end
section
set_option autoImplicit false
namespace Gx
open Go Go.Proofs
set_option maxRecDepth 10000
end Gx
end
section
set_option autoImplicit false
namespace Gx
open Go Go.Proofs
set_option maxRecDepth 10000
end Gx
end
section
set_option autoImplicit false
namespace Gx
open Go Go.Proofs
set_option maxRecDepth 10000
end Gx
end
section
set_option autoImplicit false
namespace Gx
open Go Go.Proofs
set_option maxRecDepth 10000
theorem r1_UintL (lk : Nat) (H : Heap) (l : List UInt8) (hl : l.length ≤ 1000000000) : gcall Tryz.prog md lk 246 [.string (mkS l)] H = some (.tuple #[.int .u64 ((if l.length ≤ 8 then bval l else 0 : Nat) : Int), .bool (decide (l.length ≤ 8))], H) := by
  refine gcall_val rfl Tryz.func246 rfl rfl ?_
  by_cases h8 : l.length ≤ 8
  · have f1 : (8 < ((l.length : Nat) : Int)) = False := eq_false (by omega)
    rw [decide_eq_true h8, if_pos h8]
    simp -dsimp only [go_sem, f1]
    refine r_loop (m := fun i => l.length - i) (I := fun i σ H' => i ≤ l.length ∧ H' = H ∧ σ 0 = .string (mkS l) ∧ σ 4 = .int .u64 ((bval (l.take i) : Nat) : Int) ∧ σ 5 = .int .i64 (i : Int)) 0 ⟨Nat.zero_le _, rfl, rfl, rfl, rfl⟩ ?_
    rintro i σ H' ⟨i1, rfl, g0, g4, g5⟩
    by_cases hi : i < l.length
    · have f2 : ((i : Int) < ((l.length : Nat) : Int)) = True := eq_true (by omega)
      have hb : l[i].toNat < 256 := l[i].toNat_lt
      have hbt := bval_take l i hi
      have hlt := bval_lt (l.take i)
      have hp : 256 ^ (l.take i).length ≤ 256 ^ 7 := Nat.pow_le_pow_right (by decide) (by rw [List.length_take]; omega)
      have hp7 : (256 : Nat) ^ 7 = 72057594037927936 := by decide
      have c1 : IntKind.u64.wrap (((bval (l.take i) : Nat) : Int) * 256) = ((bval (l.take i) * 256 : Nat) : Int) := by
        rw [IntKind.wrap_u64]; omega
      have c2 : IntKind.u64.wrap ((l[i].toNat : Nat) : Int) = ((l[i].toNat : Nat) : Int) := u64n (by omega)
      have c3 : IntKind.u64.wrap (((bval (l.take i) * 256 : Nat) : Int) + ((l[i].toNat : Nat) : Int)) = ((bval (l.take (i + 1)) : Nat) : Int) := by
        rw [IntKind.wrap_u64, hbt]; omega
      have e7 : IntKind.i64.wrap ((i : Int) + 1) = ((i + 1 : Nat) : Int) := by rw [w64 (by omega) (by omega)]; omega
      simp -dsimp only [go_sem, g0, g4, g5, f2, hi, byt_mkS l i hi, c1, c2, c3, e7]
      exact next (i + 1) (by show l.length - (i + 1) < l.length - i; omega) ⟨hi, rfl, g0, rfl, rfl⟩
    · have f2 : ((i : Int) < ((l.length : Nat) : Int)) = False := eq_false (by omega)
      have hii : i = l.length := by omega
      subst hii
      rw [List.take_length] at g4
      simp -dsimp only [go_sem, g0, g4, g5, f2]
  · have f1 : (8 < ((l.length : Nat) : Int)) = True := eq_true (by omega)
    rw [decide_eq_false h8, if_neg h8]
    simp -dsimp only [go_sem, f1, Int.natCast_zero]
/-- A number that is not negative as a machine integer. -/
theorem r2_ToIntP (lk : Nat) (H : Heap) (n : Nat) (hl : (bytes n).length ≤ 1000000000) : gcall Tryz.prog md lk 179 [.agg #[.bool false, .string (mkS (bytes n))]] H = some (.tuple #[.int .i64 (if n ≤ 9223372036854775807 then (n : Int) else 0), .bool (decide (n ≤ 9223372036854775807))], H) := by
  refine gcall_val rfl Tryz.func179 rfl rfl ?_
  have k1 := fun lk H' => r1_UintL lk H' (bytes n) hl
  rw [bval_bytes] at k1
  by_cases h8 : (bytes n).length ≤ 8
  · rw [decide_eq_true h8, if_pos h8] at k1
    by_cases hn : n ≤ 9223372036854775807
    · have f1 : (9223372036854775808 < (n : Int)) = False := eq_false (by omega)
      have f2 : ((n : Int) = 9223372036854775808) = False := eq_false (by omega)
      have e1 : IntKind.i64.wrap (n : Int) = (n : Int) := w64 (by omega) (by omega)
      rw [decide_eq_true hn, if_pos hn]
      simp -dsimp only [go_sem, k1, f1, f2, e1]
    · rw [decide_eq_false hn, if_neg hn]
      by_cases h9 : n = 9223372036854775808
      · have f1 : (9223372036854775808 < (n : Int)) = False := eq_false (by omega)
        have f2 : ((n : Int) = 9223372036854775808) = True := eq_true (by omega)
        simp -dsimp only [go_sem, k1, f1, f2]
      · have f1 : (9223372036854775808 < (n : Int)) = True := eq_true (by omega)
        simp -dsimp only [go_sem, k1, f1]
  · rw [decide_eq_false h8, if_neg h8] at k1
    have hn : ¬ n ≤ 9223372036854775807 := fun h => h8 (bl_small (by omega))
    rw [decide_eq_false hn, if_neg hn]
    simp -dsimp only [go_sem, k1, Int.natCast_zero]
/-- A denominator of at most 64, or 0. -/
def whole (q : Rat) : Int := if q.den ≤ 64 then (q.den : Int) else 0
theorem r13_whole (lk : Nat) (H : Heap) (q : Rat) (hl : (bytes q.den).length ≤ 1000000000) : gcall Tryz.prog md lk 106 [vR q] H = some (.int .i64 (whole q), H) := by
  refine gcall_val rfl Tryz.func106 rfl rfl ?_
  have k1 := fun lk H' => r2_ToIntP lk H' q.den hl
  unfold whole
  by_cases hn : q.den ≤ 9223372036854775807
  · rw [decide_eq_true hn, if_pos hn] at k1
    by_cases h6 : q.den ≤ 64
    · have f1 : (64 < (q.den : Int)) = False := eq_false (by omega)
      rw [if_pos h6]
      simp -dsimp only [go_sem, k1, f1]
    · have f1 : (64 < (q.den : Int)) = True := eq_true (by omega)
      rw [if_neg h6]
      simp -dsimp only [go_sem, k1, f1]
  · rw [decide_eq_false hn, if_neg hn] at k1
    rw [if_neg (by omega)]
    simp -dsimp only [go_sem, k1]
end Gx
end
section
set_option autoImplicit false
namespace Gx
open Go Go.Proofs
set_option maxRecDepth 10000
end Gx
end
section
set_option autoImplicit false
namespace Gx
open Go Go.Proofs
set_option maxRecDepth 10000
theorem p_SumCmp (lk : Nat) (H : Heap) (x y : Sd) (h1 : (bytes x.s.num.natAbs).length < 1000000) (h2 : (bytes y.s.num.natAbs).length < 1000000) (h3 : (bytes x.s.den).length < 1000000) (h4 : (bytes y.s.den).length < 1000000) :
    gcall Tryz.prog md lk 149 [vSd x, vSd y] H = some (.int .i64 (rcmp x.s y.s), H) := by
  refine gcall_val rfl Tryz.func149 rfl rfl ?_
  have k1 := fun lk H' => c_Cmp lk H' x.s y.s (by omega) (by omega) (by omega) (by omega)
  simp -dsimp only [go_sem, k1]
end Gx
end
