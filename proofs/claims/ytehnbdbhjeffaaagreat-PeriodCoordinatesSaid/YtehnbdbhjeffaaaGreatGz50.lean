/- Lemmas for the row: plain facts, or contracts of functions. -/
import Derived.Test.YtehnbdbhjeffaaaGreatGz42
import Derived.Test.YtehnbdbhjeffaaaGreatGz49
set_option linter.all false
set_option linter.unusedVariables false
set_option linter.unusedSimpArgs false
set_option linter.unnecessarySimpa false
set_option linter.deprecated false
section
/- Functions of small numbers, evaluated. (Printed by gene1.py.) -/
set_option autoImplicit false
namespace Gx
open Go Go.Proofs
set_option maxRecDepth 100000
def noPrim : Prim := fun _ _ _ => none
theorem noPrim_ok {P : Program} {md : Md} : ∀ lk g args H r, noPrim g args H = some r → ∃ m, wrap md (icall P md m) lk g args H = some r := fun _ _ _ _ _ h => nomatch h
noncomputable def alone (g : Nat) (args : List Value) : Option (Value × Heap) := kgo Tryz.prog noPrim md 60 0 g args []
noncomputable def aloneC (g : Nat) (args : List Value) (n0 : Nat) : Option (Value × Heap) := match alone g args with
 | some r => closeV n0 r.1 r.2
 | none => none
theorem alone_call {g : Nat} {args : List Value} {v : Value} {N : List Blk} {H : Heap} {fn : Func} (lk : Nat) (hm : md g = 4) (hg : Tryz.prog.funcs[g]? = some fn) (hb : fn.body.isSome = true) (hk : args.all kok1 = true) (h : aloneC g args H.length = some (v, N)) : gcall Tryz.prog md lk g args H = some (v, H ++ N) := by
 unfold aloneC at h
 cases ha : alone g args with
 | none => rw [ha] at h; cases h
 | some r =>
  rw [ha] at h
  simp only at h
  obtain ⟨m, h1⟩ := kgo_sound noPrim_ok 60 0 g args [] _ ha
  rw [gcall_go hg hb]
  refine pcall_iff.2 ⟨m, ?_⟩
  unfold wrap wrap0
  rw [hm]
  simp only [hk, if_true, h1, h]
def P9 : List Nat := [2, 3, 5, 7, 11, 13, 17, 19, 23]
theorem pr9 {p : Nat} (h : Pr p) (hp : p ≤ 23) : p ∈ P9 := by
 have key : ∀ p, p < 24 → Pr p → p ∈ P9 := by decide
 exact key p (by omega) h
theorem p9_le {p : Nat} (h : p ∈ P9) : 2 ≤ p ∧ p ≤ 23 := by revert h; revert p; decide
def prt (p : Nat) : Int := match p with
 | 2 => 1
 | 3 => 2
 | 5 => 2
 | 7 => 3
 | 11 => 2
 | 13 => 2
 | 17 => 3
 | 19 => 2
 | 23 => 5
 | _ => 0
def isI (r : Option (Value × Heap)) (z : Int) : Bool := match r with
 | some (.int k' x, _) => decide (k' = .i64) && decide (x = z)
 | _ => false
def isT (r : Option (Value × Heap)) (z : Int) : Bool := match r with
 | some (.tuple vs, _) => match vs.toList with
  | [.int k x, .int k' y] => decide (k = .i64) && decide (k' = .i64) && decide (x = z) && decide (y = 0)
  | _ => false
 | _ => false
theorem isI_call {g : Nat} {args : List Value} {z : Int} {fn : Func} (H : Heap) (lk : Nat) (hm : md g = 4) (hg : Tryz.prog.funcs[g]? = some fn) (hb : fn.body.isSome = true) (hk : args.all kok1 = true) (h : isI (alone g args) z = true) : gcall Tryz.prog md lk g args H = some (.int .i64 z, H) := by
 have hh : aloneC g args H.length = some (.int .i64 z, []) := by
  unfold isI at h
  split at h
  ·rename_i k' x H' he
   rw [Bool.and_eq_true, decide_eq_true_iff, decide_eq_true_iff] at h
   obtain ⟨rfl, rfl⟩ := h
   unfold aloneC
   rw [he]
   rfl
  ·cases h
 have := alone_call lk hm hg hb hk hh
 rw [List.append_nil] at this
 exact this
theorem isT_call {g : Nat} {args : List Value} {z : Int} {fn : Func} (H : Heap) (lk : Nat) (hm : md g = 4) (hg : Tryz.prog.funcs[g]? = some fn) (hb : fn.body.isSome = true) (hk : args.all kok1 = true) (h : isT (alone g args) z = true) : gcall Tryz.prog md lk g args H = some (.tuple #[.int .i64 z, .int .i64 0], H) := by
 have hh : aloneC g args H.length = some (.tuple #[.int .i64 z, .int .i64 0], []) := by
  unfold isT at h
  split at h
  ·rename_i vs H' he
   split at h
   ·rename_i k x k' y hv
    rw [Bool.and_eq_true, Bool.and_eq_true, Bool.and_eq_true, decide_eq_true_iff, decide_eq_true_iff, decide_eq_true_iff, decide_eq_true_iff] at h
    obtain ⟨⟨⟨rfl, rfl⟩, rfl⟩, rfl⟩ := h
    have e : vs = #[.int .i64 x, .int .i64 0] := by
     have := congrArg List.toArray hv
     simpa using this
    subst e
    unfold aloneC
    rw [he]
    rfl
   ·cases h
  ·cases h
 have := alone_call lk hm hg hb hk hh
 rw [List.append_nil] at this
 exact this
set_option maxHeartbeats 0
theorem tPR : P9.all (fun p => isT (alone 154 [.int .i64 (p : Int)]) (prt p)) = true := by kernel_rfl
theorem p_resPR {p : Nat} (hp : p ∈ P9) (lk : Nat) (H : Heap) : gcall Tryz.prog md lk 154 [.int .i64 (p : Int)] H = some (.tuple #[.int .i64 (prt p), .int .i64 0], H) :=
 isT_call H lk (by decide) Tryz.func154 rfl rfl (List.all_eq_true.1 tPR p hp)
def legT (p a : Nat) : Int := if a % p = 0 then 0 else if (List.range p).any (fun x => x * x % p == a % p) = true then 1 else -1
theorem tLP : P9.all (fun p => p == 2 || (List.range p).all fun a => isT (alone 59 [.int .i64 (a : Int), .int .i64 (p : Int)]) (legT p a)) = true := by kernel_rfl
theorem p_resLeg {p a : Nat} (hp : p ∈ P9) (h2 : p ≠ 2) (ha : a < p) (lk : Nat) (H : Heap) : gcall Tryz.prog md lk 59 [.int .i64 (a : Int), .int .i64 (p : Int)] H = some (.tuple #[.int .i64 (legT p a), .int .i64 0], H) := by
 have := List.all_eq_true.1 tLP p hp
 rw [Bool.or_eq_true, beq_iff_eq] at this
 rcases this with h | h
 ·exact absurd h h2
 ·exact isT_call H lk (by decide) Tryz.func59 rfl rfl (List.all_eq_true.1 h a (List.mem_range.2 ha))
theorem tMP : P9.all (fun p => isI (alone 124 [.int .i64 (p : Int)]) (-1)) = true := by kernel_rfl
theorem tM1 : isI (alone 124 [.int .i64 1]) 1 = true := by kernel_rfl
theorem r4_Moe {p : Nat} (hp : p ∈ P9) (lk : Nat) (H : Heap) : gcall Tryz.prog md lk 124 [.int .i64 (p : Int)] H = some (.int .i64 (-1), H) :=
 isI_call H lk (by decide) Tryz.func124 rfl rfl (List.all_eq_true.1 tMP p hp)
theorem r4_Moe1 (lk : Nat) (H : Heap) : gcall Tryz.prog md lk 124 [.int .i64 1] H = some (.int .i64 1, H) :=
 isI_call H lk (by decide) Tryz.func124 rfl rfl tM1
theorem r4_PR {p : Nat} (hp : p ∈ P9) (lk : Nat) (H : Heap) : gcall Tryz.prog md lk 87 [.int .i64 (p : Int)] H = some (.tuple #[.int .i64 (prt p), .bool true], H) := by
 have key : ∀ n0, aloneC 87 [.int .i64 (p : Int)] n0 = some (.tuple #[.int .i64 (prt p), .bool true], []) := by
  intro n0
  simp only [P9, List.mem_cons, List.not_mem_nil, or_false] at hp
  rcases hp with rfl | rfl | rfl | rfl | rfl | rfl | rfl | rfl | rfl <;> kernel_rfl
 have := alone_call (H := H) lk (by decide) Tryz.func87 rfl rfl (key H.length)
 rw [List.append_nil] at this
 exact this
def mis (l : List Int) : List MI := l.map fun x => ⟨x⟩
theorem lists_call {g : Nat} {args : List Value} {l : List Int} {fn : Func} (hm : md g = 4) (hg : Tryz.prog.funcs[g]? = some fn) (hb : fn.body.isSome = true) (hk : args.all kok1 = true) (h : ∀ n0, aloneC g args n0 = some (.slice (some ⟨n0 + 0, 0, none⟩) l.length l.length, [⟨cells (mis l), 1, false⟩])) (H : Heap) : Yields g args H fun v H' => OV H.length H' v (mis l) := by
 intro lk hl
 refine ⟨_, _, alone_call lk hm hg hb hk (h H.length), Ext.app _ _, some ⟨H.length, 0, none⟩, by simp [mis], .inr ⟨H.length, rfl, Nat.le_refl _, ilive_new _ _⟩⟩
theorem p_phi {p : Nat} (hp : p ∈ P9) (H : Heap) : Yields 146 [.int .i64 (p : Int)] H fun v H' => OV H.length H' v (mis (List.replicate p 1)) := by
 refine lists_call (by decide) Tryz.func146 rfl rfl (fun n0 => ?_) H
 simp only [P9, List.mem_cons, List.not_mem_nil, or_false] at hp
 rcases hp with rfl | rfl | rfl | rfl | rfl | rfl | rfl | rfl | rfl <;> kernel_rfl
def unitsL (p : Nat) : List Int := (List.range (p - 1)).map fun i => ((i + 1 : Nat) : Int)
theorem p_units {p : Nat} (hp : p ∈ P9) (H : Heap) : Yields 142 [.int .i64 (p : Int)] H fun v H' => OV H.length H' v (mis (unitsL p)) := by
 refine lists_call (by decide) Tryz.func142 rfl rfl (fun n0 => ?_) H
 simp only [P9, List.mem_cons, List.not_mem_nil, or_false] at hp
 rcases hp with rfl | rfl | rfl | rfl | rfl | rfl | rfl | rfl | rfl <;> kernel_rfl
end Gx
end
section
/- Polynomials as they come: the checks. -/
set_option autoImplicit false
namespace Gx
open Go Go.Proofs
set_option maxRecDepth 10000
theorem RQ.ext' {x y : RQ} (h1 : x.neg = y.neg) (h2 : x.abs = y.abs) (h3 : x.den = y.den) : x = y := by cases x; cases y; simp_all
def rq (q : Rat) : RQ := ⟨decide (q.num < 0), bytes q.num.natAbs, bytes q.den⟩
theorem VQ.eq {x : RQ} {q : Rat} (h : VQ x q) : x = rq q := RQ.ext' h.1 h.2.1 h.2.2
theorem rq_v (q : Rat) : VQ (rq q) q := ⟨rfl, rfl, rfl⟩
theorem cells_rq (f : List Rat) : cells (f.map rq) = cells f := by
 induction f with
 | nil => rfl
 | cons x f ih => rw [List.map_cons, cells_cons, cells_cons, ih]; rfl
theorem SL.rq {H : Heap} {a : Option Addr} {f : List Rat} (h : SL H a (f.map rq)) : SL H a f := by
 rcases h with ⟨h1, h2⟩ | ⟨b, o, B, h1, h2, h3, h4, h5⟩
 ·exact .inl ⟨h1, by simpa using h2⟩
 ·rw [cells_rq] at h4
  rw [List.length_map] at h4 h5
  exact .inr ⟨b, o, B, h1, h2, h3, h4, h5⟩
theorem SL.unrq {H : Heap} {a : Option Addr} {f : List Rat} (h : SL H a f) : SL H a (f.map Gx.rq) := by
 rcases h with ⟨h1, h2⟩ | ⟨b, o, B, h1, h2, h3, h4, h5⟩
 ·exact .inl ⟨h1, by rw [h2]; rfl⟩
 ·refine .inr ⟨b, o, B, h1, h2, h3, ?_, ?_⟩
  ·rw [cells_rq, List.length_map]; exact h4
  ·rw [List.length_map]; exact h5
theorem LV.rq {H : Heap} {v : Value} {f : List Rat} (h : LV H v (f.map Gx.rq)) : LV H v f := let ⟨a, h1, h2⟩ := h; ⟨a, by rw [h1, List.length_map], h2.rq⟩
theorem LV.unrq {H : Heap} {v : Value} {f : List Rat} (h : LV H v f) : LV H v (f.map Gx.rq) := let ⟨a, h1, h2⟩ := h; ⟨a, by rw [h1, List.length_map], h2.unrq⟩
def firstE : List RQ → Int
 | [] => 0
 | x :: l => if ckQ x ≠ 0 then ckQ x else firstE l
theorem firstE_zero {l : List RQ} (h : firstE l = 0) : ∃ f : List Rat, l = f.map rq ∧ ∀ x ∈ f, Sm 1024 x := by
 induction l with
 | nil => exact ⟨[], rfl, fun x h => by simp at h⟩
 | cons x l ih =>
  unfold firstE at h
  by_cases hx : ckQ x = 0
  ·rw [if_neg (fun h => h hx)] at h
   obtain ⟨f, hf, hs⟩ := ih h
   obtain ⟨q, hq, hq2⟩ := ckQ_zero hx
   refine ⟨q :: f, by rw [List.map_cons, hf, hq.eq], fun y hy => ?_⟩
   rcases List.mem_cons.1 hy with h | h
   ·rw [h]; exact hq2
   ·exact hs y h
  ·rw [if_pos hx] at h; exact absurd h hx
theorem firstE_map {f : List Rat} (h : ∀ x ∈ f, Sm 1024 x) : firstE (f.map rq) = 0 := by
 induction f with
 | nil => rfl
 | cons x f ih =>
  rw [List.map_cons, firstE, (rq_v x).ck (h x (by simp)), if_neg (fun h => h rfl)]
  exact ih fun y hy => h y (by simp [hy])
def ckP (l : List RQ) : Int := if 65 < l.length then 4 else if firstE l ≠ 0 then firstE l else if l ≠ [] ∧ (l.getD (l.length - 1) ⟨false, [], []⟩).abs = [] then 1 else 0
theorem rq_last (f : List Rat) (h : f ≠ []) : ((f.map rq).getD ((f.map rq).length - 1) ⟨false, [], []⟩).abs = [] ↔ qf f (f.length - 1) = 0 := by
 have hl := List.length_pos_iff.2 h
 rw [List.length_map, List.getD_eq_getElem?_getD, List.getElem?_map, List.getElem?_eq_getElem (by omega)]
 simp only [Option.map_some, Option.getD_some]
 rw [qf_lt (by omega)]
 show bytes _ = [] ↔ _
 rw [bytes_eq_nil]
 exact ⟨fun h => Rat.num_eq_zero.1 (by omega), fun h => by rw [h]; rfl⟩
theorem ckP_zero {l : List RQ} (h : ckP l = 0) : ∃ f : List Rat, l = f.map rq ∧ Nrm f ∧ f.length ≤ 65 ∧ ∀ x ∈ f, Sm 1024 x := by
 unfold ckP at h
 by_cases h1 : 65 < l.length
 ·rw [if_pos h1] at h; omega
 rw [if_neg h1] at h
 by_cases h2 : firstE l = 0
 ·rw [if_neg (fun h => h h2)] at h
  obtain ⟨f, rfl, hs⟩ := firstE_zero h2
  rw [List.length_map] at h1
  refine ⟨f, rfl, fun hne h0 => ?_, by omega, hs⟩
  rw [if_pos ⟨by simpa using hne, (rq_last f hne).2 h0⟩] at h
  omega
 ·rw [if_pos h2] at h; exact absurd h h2
theorem ckP_map {f : List Rat} (nf : Nrm f) (hl : f.length ≤ 65) (hs : ∀ x ∈ f, Sm 1024 x) : ckP (f.map rq) = 0 := by
 unfold ckP
 rw [List.length_map, if_neg (by omega), firstE_map hs, if_neg (fun h => h rfl), if_neg]
 rintro ⟨h1, h2⟩
 have hne : f ≠ [] := by simpa using h1
 have h3 := (rq_last f hne).1 (by rw [List.length_map]; exact h2)
 exact nf hne h3
theorem SL.ixq {H : Heap} {a : Option Addr} {f : List RQ} (hs : SL H a f) (i : Nat) (hi : i < f.length) {t : TypeId} (he : telem Tryz.prog t = some 55) :
  ∃ p, iindexAddr Tryz.prog t (.slice a f.length f.length) (.int .i64 (i : Int)) = some p ∧ ∀ H', Ext H H' → iload Tryz.prog H' 55 p = some (vQ f[i]) := by
 obtain ⟨b, o, B, rfl, hB, hz, hg⟩ := hs.get i hi
 refine ⟨.pointer (some ⟨b, o + i * 3, none⟩), ?_, fun H' hE => ?_⟩
 ·have h1 : (i : Int) < (f.length : Int) := by omega
  simp -dsimp only [go_sem, he, hi]
 ·have hB' := hE.live hB
  have hg : isub B.c (o + i * 3) 3 = some [.bool f[i].neg, .string (mkS f[i].abs), .string (mkS f[i].den)] := hg
  simp -dsimp only [go_sem, hB', hg]
theorem firstE_take {l : List RQ} {i : Nat} (h : firstE (l.take i) = 0) (hi : i < l.length) : (ckQ l[i] = 0 → firstE (l.take (i + 1)) = 0) ∧ (ckQ l[i] ≠ 0 → firstE l = ckQ l[i]) := by
 induction l generalizing i with
 | nil => simp at hi
 | cons x l ih =>
  cases i with
  | zero =>
   simp only [List.getElem_cons_zero]
   refine ⟨fun h2 => ?_, fun h2 => ?_⟩
   ·simp [firstE, h2]
   ·rw [firstE, if_pos h2]
  | succ i =>
   rw [List.take_succ_cons, firstE] at h
   by_cases hx : ckQ x = 0
   ·rw [if_neg (fun h => h hx)] at h
    have := ih h (by simpa using hi)
    simp only [List.getElem_cons_succ]
    refine ⟨fun h2 => ?_, fun h2 => ?_⟩
    ·rw [List.take_succ_cons, firstE, if_neg (fun h => h hx)]; exact this.1 h2
    ·rw [firstE, if_neg (fun h => h hx)]; exact this.2 h2
   ·rw [if_pos hx] at h; exact absurd h hx
theorem lastQ {l : List RQ} {H : Heap} {a : Option Addr} (hs : SL H a l) (h0 : firstE l = 0) (hl : l ≠ []) : ∃ p q, iindexAddr Tryz.prog 23 (.slice a l.length l.length) (.int .i64 ((l.length - 1 : Nat) : Int)) = some p ∧ (∀ H', Ext H H' → iload Tryz.prog H' 55 p = some (vR q)) ∧ ((l.getD (l.length - 1) ⟨false, [], []⟩).abs = [] ↔ q = 0) := by
 obtain ⟨f, rfl, _⟩ := firstE_zero h0
 have hne : f ≠ [] := by simpa using hl
 have hll := List.length_pos_iff.2 hne
 obtain ⟨p, hp, hld⟩ := hs.rq.ix (f.length - 1) (by omega) te_Poly
 refine ⟨p, f[f.length - 1], by rw [List.length_map]; exact hp, hld, ?_⟩
 rw [rq_last f hne, qf_lt (by omega)]
theorem p_qpCheck {H : Heap} {v : Value} {l : List RQ} (hv : LV H v l) (lk : Nat) : gcall Tryz.prog md lk 118 [v] H = some (.int .i64 (ckP l), H) := by
 obtain ⟨a, rfl, hs⟩ := hv
 refine gcall_val rfl Tryz.func118 rfl rfl ?_
 unfold ckP
 by_cases h1 : 65 < l.length
 ·have f1 : (65 < (l.length : Int)) = True := eq_true (by omega)
  rw [if_pos h1]
  simp -dsimp only [go_sem, f1]
 have f1 : (65 < (l.length : Int)) = False := eq_false (by omega)
 rw [if_neg h1]
 simp -dsimp only [go_sem, f1]
 refine r_loop (m := fun (i : Nat) => l.length - i) (I := fun i σ H' => i ≤ l.length ∧ Ext H H' ∧ firstE (l.take i) = 0 ∧ σ 0 = .slice a l.length l.length ∧ σ 9 = .slice a l.length l.length ∧ σ 10 = .int .i64 (l.length : Int) ∧ σ 11 = .int .i64 (i : Int)) 0 ⟨Nat.zero_le _, Ext.refl _, rfl, rfl, rfl, rfl, rfl⟩ ?_
 rintro i σ H' ⟨h2, hE, h3, s0, s9, s10, s11⟩
 have hlo := hE.le
 by_cases hi : i < l.length
 ·have f2 := ltI hi
  have e7 := inc64 hi (by omega)
  obtain ⟨p, hp, hld⟩ := hs.ixq i hi te_Poly
  have hld := hld H' hE
  have k := fun lk H' => p_ratCheckQ lk H' l[i]
  obtain ⟨g1, g2⟩ := firstE_take h3 hi
  by_cases hc : ckQ l[i] = 0
  ·rw [hc] at k
   simp -dsimp only [go_sem, s0, s9, s10, s11, f2, hp, hld, k, e7, hlo]
   exact next (i + 1) (by show l.length - (i + 1) < l.length - i; omega) ⟨hi, hE.more _, g1 hc, s0, s9, s10, rfl⟩
  ·rw [if_pos (by rw [g2 hc]; exact hc), g2 hc]
   simp -dsimp only [go_sem, s0, s9, s10, s11, f2, hp, hld, k, hlo, hc]
 ·have hi' : i = l.length := by omega
  subst hi'
  rw [List.take_length] at h3
  have f2 := nltI l.length
  rw [h3, if_neg (fun h => h rfl)]
  by_cases hl : l = []
  ·have f3 : (0 < (l.length : Int)) = False := eq_false (by rw [hl]; simp)
   rw [if_neg (fun h => h.1 hl)]
   simp -dsimp only [go_sem, s0, s9, s10, s11, f2, f3]
  ·have hll := List.length_pos_iff.2 hl
   have f3 : (0 < (l.length : Int)) = True := eq_true (by omega)
   have e1 : IntKind.i64.wrap ((l.length : Int) - 1) = ((l.length - 1 : Nat) : Int) := by rw [w64 (by omega) (by omega)]; omega
   obtain ⟨p, q, hp, hld, hq⟩ := lastQ hs h3 hl
   have hld := hld H' hE
   have kz := fun lk H' => c_IsZero lk H' q
   by_cases hz : q = 0
   ·rw [decide_eq_true hz] at kz
    rw [if_pos ⟨hl, hq.2 hz⟩]
    simp -dsimp only [go_sem, s0, s9, s10, s11, f2, f3, e1, hp, hld, kz]
   ·rw [decide_eq_false hz] at kz
    rw [if_neg (fun h => hz (hq.1 h.2))]
    simp -dsimp only [go_sem, s0, s9, s10, s11, f2, f3, e1, hp, hld, kz]
theorem r6_Check {H : Heap} {v : Value} {l : List RQ} (hv : LV H v l) (lk : Nat) : gcall Tryz.prog md lk 69 [v] H = some (.int .i64 (ckP l), H) := by
 obtain ⟨a, rfl, hs⟩ := hv
 refine gcall_val rfl Tryz.func69 rfl rfl ?_
 unfold ckP
 by_cases h1 : 65 < l.length
 ·have f1 : (65 < (l.length : Int)) = True := eq_true (by omega)
  rw [if_pos h1]
  simp -dsimp only [go_sem, f1]
 have f1 : (65 < (l.length : Int)) = False := eq_false (by omega)
 rw [if_neg h1]
 simp -dsimp only [go_sem, f1]
 refine r_loop (m := fun (i : Nat) => l.length - i) (I := fun i σ H' => i ≤ l.length ∧ Ext H H' ∧ firstE (l.take i) = 0 ∧ σ 0 = .slice a l.length l.length ∧ σ 9 = .slice a l.length l.length ∧ σ 10 = .int .i64 (l.length : Int) ∧ σ 11 = .int .i64 (i : Int)) 0 ⟨Nat.zero_le _, Ext.refl _, rfl, rfl, rfl, rfl, rfl⟩ ?_
 rintro i σ H' ⟨h2, hE, h3, s0, s9, s10, s11⟩
 have hlo := hE.le
 by_cases hi : i < l.length
 ·have f2 := ltI hi
  have e7 := inc64 hi (by omega)
  obtain ⟨p, hp, hld⟩ := hs.ixq i hi te_Poly
  have hld := hld H' hE
  have k := fun lk H' => r3_CheckQ lk H' l[i]
  obtain ⟨g1, g2⟩ := firstE_take h3 hi
  by_cases hc : ckQ l[i] = 0
  ·rw [hc] at k
   simp -dsimp only [go_sem, s0, s9, s10, s11, f2, hp, hld, k, e7, hlo]
   exact next (i + 1) (by show l.length - (i + 1) < l.length - i; omega) ⟨hi, hE.more _, g1 hc, s0, s9, s10, rfl⟩
  ·rw [if_pos (by rw [g2 hc]; exact hc), g2 hc]
   simp -dsimp only [go_sem, s0, s9, s10, s11, f2, hp, hld, k, hlo, hc]
 ·have hi' : i = l.length := by omega
  subst hi'
  rw [List.take_length] at h3
  have f2 := nltI l.length
  rw [h3, if_neg (fun h => h rfl)]
  by_cases hl : l = []
  ·have f3 : (0 < (l.length : Int)) = False := eq_false (by rw [hl]; simp)
   rw [if_neg (fun h => h.1 hl)]
   simp -dsimp only [go_sem, s0, s9, s10, s11, f2, f3]
  ·have hll := List.length_pos_iff.2 hl
   have f3 : (0 < (l.length : Int)) = True := eq_true (by omega)
   have e1 : IntKind.i64.wrap ((l.length : Int) - 1) = ((l.length - 1 : Nat) : Int) := by rw [w64 (by omega) (by omega)]; omega
   obtain ⟨p, q, hp, hld, hq⟩ := lastQ hs h3 hl
   have hld := hld H' hE
   have kz := fun lk H' => r3_Sign lk H' q
   have sz := sgn_zero q
   by_cases hz : q = 0
   ·rw [eq_true hz] at sz
    rw [if_pos ⟨hl, hq.2 hz⟩]
    simp -dsimp only [go_sem, s0, s9, s10, s11, f2, f3, e1, hp, hld, kz, sz]
   ·rw [eq_false hz] at sz
    rw [if_neg (fun h => hz (hq.1 h.2))]
    simp -dsimp only [go_sem, s0, s9, s10, s11, f2, f3, e1, hp, hld, kz, sz]
def Tells (g : FuncId) (P : Rat → Bool) : Prop := ∀ lk H q, gcall Tryz.prog md lk g [vR q] H = some (.bool (P q), H)
theorem s_indexP {H : Heap} {v : Value} {f : List Rat} {g : FuncId} {P : Rat → Bool} (hv : LV H v f) (hl : f.length ≤ 1000000) (hg : Tells g P) :
  ∃ z : Int, (∀ lk, gcall Tryz.prog md lk 218 [v, .func (.func g) #[] #[]] H = some (.int .i64 z, H)) ∧ decide (0 ≤ z) = f.any P := by
 obtain ⟨a, rfl, hs⟩ := hv
 have key : ∃ v, (∀ lk, gcall Tryz.prog md lk 218 [.slice a f.length f.length, .func (.func g) #[] #[]] H = some (v, H)) ∧ ∃ z : Int, v = .int .i64 z ∧ decide (0 ≤ z) = f.any P := by
  refine y_val1 (by decide) Tryz.func218 rfl (by rintro v ⟨z, rfl, _⟩; rfl) ?_
  simp -dsimp only [go_sem]
  refine r_loop (m := fun (i : Nat) => f.length - i) (I := fun i σ H' => i ≤ f.length ∧ H' = H ∧ (f.take i).any P = false ∧ σ 0 = .slice a f.length f.length ∧ σ 1 = .func (.func g) #[] #[] ∧ σ 7 = .int .i64 (f.length : Int) ∧ σ 8 = .int .i64 (i : Int)) 0 ⟨Nat.zero_le _, rfl, rfl, rfl, rfl, rfl, rfl⟩ ?_
  rintro i σ H' ⟨h1, rfl, h2, s0, s1, s7, s8⟩
  by_cases hi : i < f.length
  ·have f1 := ltI hi
   have e7 := inc64 hi hl
   obtain ⟨p, hp, hld⟩ := hs.ix i hi te_Poly
   have hld := hld _ (Ext.refl _)
   have k := fun lk H' => hg lk H' f[i]
   cases hP : P f[i] with
   | true =>
    rw [hP] at k
    simp -dsimp only [go_sem, s0, s1, s7, s8, f1, hp, hld, k]
    refine ⟨_, rfl, ?_⟩
    rw [decide_eq_true (by omega)]
    exact (List.any_eq_true.2 ⟨f[i], List.getElem_mem hi, hP⟩).symm
   | false =>
    rw [hP] at k
    simp -dsimp only [go_sem, s0, s1, s7, s8, f1, hp, hld, k, e7]
    refine next (i + 1) (by show f.length - (i + 1) < f.length - i; omega) ⟨hi, rfl, ?_, s0, s1, s7, rfl⟩
    rw [List.take_add_one, List.getElem?_eq_getElem hi, Option.toList_some, List.any_append, h2]
    simp [hP]
  ·have hi' : i = f.length := by omega
   subst hi'
   rw [List.take_length] at h2
   have f1 := nltI f.length
   simp -dsimp only [go_sem, s0, s1, s7, s8, f1]
   exact ⟨_, rfl, by rw [h2]; rfl⟩
 obtain ⟨v, k, z, rfl, hz⟩ := key
 exact ⟨z, k, hz⟩
theorem s_containsP {H : Heap} {v : Value} {f : List Rat} {g : FuncId} {P : Rat → Bool} (hv : LV H v f) (hl : f.length ≤ 1000000) (hg : Tells g P) (lk : Nat) :
  gcall Tryz.prog md lk 177 [v, .func (.func g) #[] #[]] H = some (.bool (f.any P), H) := by
 refine gcall_val rfl Tryz.func177 rfl rfl ?_
 obtain ⟨z, k, hz⟩ := s_indexP hv hl hg
 rw [← hz]
 simp -dsimp only [go_sem, k]
theorem tells_Large : Tells 67 lrg := fun lk H q => c_Large lk H q
theorem tells_Form : Tells 178 (fun q => decide (q.den ≠ 1)) := fun lk H q => by
 show _ = some (Value.bool (decide (q.den ≠ 1)), H)
 refine gcall_val rfl Tryz.func178 rfl rfl ?_
 have k := fun lk H' => c_IsWhole lk H' q
 simp -dsimp only [go_sem, k, decide_not]
def formF (f : List Rat) : Int := if f.length < 2 ∨ qf f (f.length - 1) ≠ 1 then 1 else if f.any (fun q => decide (q.den ≠ 1)) = true then 1 else if 24 < f.length - 1 then 4 else 0
theorem p_Form {H : Heap} {v : Value} {f : List Rat} (hv : FV H v f) (nf : Nrm f) (lf : f.length ≤ 65) (hs : ∀ x ∈ f, Sm 1024 x) (lk : Nat) : gcall Tryz.prog md lk 117 [v] H = some (.int .i64 (formF f), H) := by
 obtain ⟨a, rfl, h⟩ := hv
 refine gcall_val rfl Tryz.func117 rfl rfl ?_
 have k := fun N => p_qpCheck (v := .slice a f.length f.length) (LV.unrq ⟨a, rfl, (Ext.app H N).sl h⟩)
 rw [ckP_map nf lf hs] at k
 have e1 : IntKind.i64.wrap ((f.length : Int) - 1) = (f.length : Int) - 1 := by rw [w64 (by omega) (by omega)]
 unfold formF
 by_cases h2 : f.length < 2
 ·have f1 : ((f.length : Int) - 1 < 1) = True := eq_true (by omega)
  rw [if_pos (.inl h2)]
  simp -dsimp only [go_sem, k, e1, f1]
 ·have f1 : ((f.length : Int) - 1 < 1) = False := eq_false (by omega)
  have e2 : (f.length : Int) - 1 = ((f.length - 1 : Nat) : Int) := by omega
  replace e1 : IntKind.i64.wrap ((f.length : Int) - 1) = ((f.length - 1 : Nat) : Int) := by rw [e1, e2]
  rw [e2] at f1
  obtain ⟨p, hp, hld⟩ := h.ix (f.length - 1) (by omega) te_Poly
  have hld := fun N => hld (H ++ N) (Ext.app H N)
  rw [← qf_lt (show f.length - 1 < f.length by omega)] at hld
  have c1 := fun lk H' => c_Int lk H' 1 (by omega)
  rw [show (((1 : Int)) : Rat) = 1 from rfl] at c1
  by_cases h3 : qf f (f.length - 1) = 1
  ·rw [if_neg (by rintro (h | h); exact h2 h; exact h h3)]
   have kc := fun N => s_containsP (v := .slice a f.length f.length) ⟨a, rfl, (Ext.app H N).sl h⟩ (by omega) tells_Form
   cases hw : f.any (fun q => decide (q.den ≠ 1)) with
   | true =>
    rw [if_pos rfl]
    rw [hw] at kc
    simp -dsimp only [go_sem, k, e1, f1, hp, hld, c1, h3, kc]
   | false =>
    rw [if_neg (by decide)]
    rw [hw] at kc
    by_cases h4 : 24 < f.length - 1
    ·have f4 : (24 < ((f.length - 1 : Nat) : Int)) = True := eq_true (by omega)
     rw [if_pos h4]
     simp -dsimp only [go_sem, k, e1, f1, hp, hld, c1, h3, kc, f4]
    ·have f4 : (24 < ((f.length - 1 : Nat) : Int)) = False := eq_false (by omega)
     rw [if_neg h4]
     simp -dsimp only [go_sem, k, e1, f1, hp, hld, c1, h3, kc, f4]
  ·rw [if_pos (.inr h3)]
   simp -dsimp only [go_sem, k, e1, f1, hp, hld, c1, h3]
theorem r30_Form {H : Heap} {v : Value} {f : List Rat} (hv : FV H v f) (nf : Nrm f) (lf : f.length ≤ 65) (hs : ∀ x ∈ f, Sm 1024 x) (lk : Nat) : gcall Tryz.prog md lk 68 [v] H = some (.int .i64 (formF f), H) := by
 obtain ⟨a, rfl, h⟩ := hv
 refine gcall_val rfl Tryz.func68 rfl rfl ?_
 have k := fun N => r6_Check (v := .slice a f.length f.length) (LV.unrq ⟨a, rfl, (Ext.app H N).sl h⟩)
 rw [ckP_map nf lf hs] at k
 unfold formF
 by_cases h2 : f.length < 2
 ·have f1 : ((f.length : Int) < 2) = True := eq_true (by omega)
  rw [if_pos (.inl h2)]
  simp -dsimp only [go_sem, k, f1]
 ·have f1 : ((f.length : Int) < 2) = False := eq_false (by omega)
  have kl := fun N => r6_Lead (v := .slice a f.length f.length) ⟨a, rfl, (Ext.app H N).sl h⟩ (by omega)
  by_cases h3 : qf f (f.length - 1) = 1
  ·rw [if_neg (by rintro (h | h); exact h2 h; exact h h3)]
   simp -dsimp only [go_sem, k, f1, kl, r3_one, h3]
   obtain ⟨H1, hH1⟩ : ∃ H1, H1 = H ++ [⟨[.slice a f.length f.length], 1, false⟩] := ⟨_, rfl⟩
   have hE0 : Ext H H1 := by rw [hH1]; exact Ext.app _ _
   have hb : ilive H1 H.length = some ⟨[.slice a f.length f.length], 1, false⟩ := by rw [hH1]; exact ilive_new _ _
   rw [← hH1]
   refine r_loop (m := fun (i : Nat) => f.length - i) (I := fun i σ H' => i ≤ f.length ∧ Ext H1 H' ∧ (f.take i).any (fun q => decide (q.den ≠ 1)) = false ∧ σ 1 = .pointer (some ⟨H.length, 0, none⟩) ∧ σ 24 = .slice a f.length f.length ∧ σ 25 = .int .i64 (f.length : Int) ∧ σ 26 = .int .i64 (i : Int)) 0 ⟨Nat.zero_le _, Ext.refl _, rfl, rfl, rfl, rfl, rfl⟩ ?_
   rintro i σ H' ⟨g1, hE, g2, s1, s24, s25, s26⟩
   have hlo := hE.le
   have hlo0 := hE0.le
   have hb' := hE.live hb
   by_cases hi : i < f.length
   ·have f2 := ltI hi
    have e7 := inc64 hi (by omega)
    obtain ⟨p, hp, hld⟩ := h.ix i hi te_Poly
    have hld := hld H' (hE0.trans hE)
    have kw := fun lk H' => r3_IsWhole lk H' f[i]
    have hlH : H.length ≤ H'.length := by omega
    by_cases hw : f[i].den = 1
    ·rw [decide_eq_true hw] at kw
     simp -dsimp only [go_sem, s1, s24, s25, s26, f2, e7, hp, hld, kw, hlH]
     refine next (i + 1) (by show f.length - (i + 1) < f.length - i; omega) ⟨hi, hE.more _, ?_, s1, s24, s25, rfl⟩
     rw [List.take_add_one, List.getElem?_eq_getElem hi, Option.toList_some, List.any_append, g2]
     simp [hw]
    ·have ha : f.any (fun q => decide (q.den ≠ 1)) = true := List.any_eq_true.2 ⟨f[i], List.getElem_mem hi, by simpa using hw⟩
     rw [decide_eq_false hw] at kw
     rw [if_pos ha]
     simp -dsimp only [go_sem, s1, s24, s25, s26, f2, hp, hld, kw, hlH]
   ·have hi' : i = f.length := by omega
    subst hi'
    rw [List.take_length] at g2
    have f2 := nltI f.length
    have kd := fun lk => r30_Degree (v := .agg (List.toArray [.slice a f.length f.length])) ⟨a, rfl, (hE0.trans hE).sl h⟩ (by intro h0; rw [h0] at h2; simp at h2) (by omega) lk
    rw [if_neg (by rw [g2]; decide)]
    by_cases h4 : 24 < f.length - 1
    ·have f4 : (24 < ((f.length - 1 : Nat) : Int)) = True := eq_true (by omega)
     rw [if_pos h4]
     simp -dsimp only [go_sem, s1, s24, s25, s26, f2, hb', kd, f4]
    ·have f4 : (24 < ((f.length - 1 : Nat) : Int)) = False := eq_false (by omega)
     rw [if_neg h4]
     simp -dsimp only [go_sem, s1, s24, s25, s26, f2, hb', kd, f4]
  ·rw [if_pos (.inr h3)]
   simp -dsimp only [go_sem, k, f1, kl, r3_one, h3]
def elE (m : List Rat) (l : List RQ) : Int := if ckP l ≠ 0 then ckP l else if m.length - 1 < l.length then 3 else 0
theorem p_Element {H : Heap} {v w : Value} {m : List Rat} {l : List RQ} (hv : FV H v m) (hw : LV H w l) (nm : Nrm m) (lm : m.length ≤ 65) (hs : ∀ x ∈ m, Sm 1024 x) (hf : formF m = 0) (h2 : 2 ≤ m.length) (lk : Nat) : gcall Tryz.prog md lk 65 [v, w] H = some (.int .i64 (elE m l), H) := by
 have kf := fun N lk => p_Form (hv.ext (Ext.app H N)) nm lm hs lk
 rw [hf] at kf
 obtain ⟨a, rfl, h⟩ := hv
 refine gcall_val rfl Tryz.func65 rfl rfl ?_
 have k := fun N lk => p_qpCheck (hw.ext (Ext.app H N)) lk
 obtain ⟨b, rfl, ht⟩ := hw
 unfold elE
 by_cases hc : ckP l = 0
 ·rw [if_neg (fun h => h hc)]
  rw [hc] at k
  by_cases h4 : m.length - 1 < l.length
  ·have f4 : ((m.length : Int) ≤ (l.length : Int)) = True := eq_true (by omega)
   rw [if_pos h4]
   simp -dsimp only [go_sem, kf, k, f4]
  ·have f4 : ((m.length : Int) ≤ (l.length : Int)) = False := eq_false (by omega)
   rw [if_neg h4]
   simp -dsimp only [go_sem, kf, k, f4]
 ·rw [if_pos hc]
  simp -dsimp only [go_sem, kf, k, hc]
theorem r30_Element {H : Heap} {v w : Value} {m : List Rat} {l : List RQ} (hv : FV H v m) (hw : LV H w l) (nm : Nrm m) (lm : m.length ≤ 65) (hs : ∀ x ∈ m, Sm 1024 x) (hf : formF m = 0) (h2 : 2 ≤ m.length) (lk : Nat) : gcall Tryz.prog md lk 21 [v, w] H = some (.int .i64 (elE m l), H) := by
 have kf := fun N lk => r30_Form (hv.ext (Ext.app H N)) nm lm hs lk
 have kd := fun N lk => r30_Degree (hv.ext (Ext.app H N)) (by intro h; rw [h] at h2; simp at h2) (by omega) lk
 rw [hf] at kf
 obtain ⟨a, rfl, h⟩ := hv
 refine gcall_val rfl Tryz.func21 rfl rfl ?_
 have k := fun N lk => r6_Check (hw.ext (Ext.app H N)) lk
 obtain ⟨b, rfl, ht⟩ := hw
 unfold elE
 by_cases hc : ckP l = 0
 ·rw [if_neg (fun h => h hc)]
  rw [hc] at k
  by_cases h4 : m.length - 1 < l.length
  ·have f4 : (((m.length - 1 : Nat) : Int) < (l.length : Int)) = True := eq_true (by omega)
   rw [if_pos h4]
   simp -dsimp only [go_sem, kf, k, kd, f4]
  ·have f4 : (((m.length - 1 : Nat) : Int) < (l.length : Int)) = False := eq_false (by omega)
   rw [if_neg h4]
   simp -dsimp only [go_sem, kf, k, kd, f4]
 ·rw [if_pos hc]
  simp -dsimp only [go_sem, kf, k, hc]
end Gx
end
section
/- Polynomials with whole coefficients of bounded size. -/
set_option autoImplicit false
namespace Gx
structure IntB (b : Nat) (q : Rat) : Prop where
 d : q.den = 1
 n : q.num.natAbs ≤ b
theorem IntB.mono {b c : Nat} {q : Rat} (h : IntB b q) (hc : b ≤ c) : IntB c q := ⟨h.d, Nat.le_trans h.n hc⟩
theorem IntB.of {b : Nat} {z : Int} (h : z.natAbs ≤ b) : IntB b (z : Rat) := ⟨rfl, h⟩
theorem IntB.eq {b : Nat} {q : Rat} (h : IntB b q) : q = ((q.num : Int) : Rat) := (wholeEq q h.d).symm
theorem IntB.zero {b : Nat} : IntB b 0 := ⟨rfl, Nat.zero_le _⟩
theorem IntB.add {b c : Nat} {p q : Rat} (hp : IntB b p) (hq : IntB c q) : IntB (b + c) (p + q) := by
 rw [hp.eq, hq.eq, ← Rat.intCast_add]
 exact .of (Nat.le_trans (Int.natAbs_add_le _ _) (Nat.add_le_add hp.n hq.n))
theorem IntB.mul {b c : Nat} {p q : Rat} (hp : IntB b p) (hq : IntB c q) : IntB (b * c) (p * q) := by
 rw [hp.eq, hq.eq, ← Rat.intCast_mul]
 exact .of (by rw [Int.natAbs_mul]; exact Nat.mul_le_mul hp.n hq.n)
theorem IntB.neg {b : Nat} {p : Rat} (hp : IntB b p) : IntB b (-p) := by
 rw [hp.eq, ← Rat.intCast_neg]
 exact .of (by rw [Int.natAbs_neg]; exact hp.n)
theorem IntB.sub {b c : Nat} {p q : Rat} (hp : IntB b p) (hq : IntB c q) : IntB (b + c) (p - q) := by rw [Rat.sub_eq_add_neg]; exact hp.add hq.neg
theorem IntB.sm {b k : Nat} {q : Rat} (h : IntB b q) (hb : b < 256 ^ k) (hk : 1 ≤ k) : Sm k q := ⟨bl_le (Nat.lt_of_le_of_lt h.n hb), by rw [h.d, bl_one]; exact hk⟩
theorem rat_inv_one : (1 : Rat)⁻¹ = 1 := by decide +kernel
def BBn : Nat := 1000
def BB : Nat := 256 ^ BBn
theorem IntB.sz {b : Nat} {q : Rat} (h : IntB b q) (hb : b < BB) : Sz q := (h.sm (k := BBn) (by unfold BB at hb; exact hb) (by decide)).mono (by decide)
def IntL (b : Nat) (f : List Rat) : Prop := ∀ i, IntB b (qf f i)
theorem IntL.mono {b c : Nat} {f : List Rat} (h : IntL b f) (hc : b ≤ c) : IntL c f := fun i => (h i).mono hc
theorem IntL.szL {b : Nat} {f : List Rat} (h : IntL b f) (hb : b < BB) : SzL f := fun x hx => by
 obtain ⟨i, hi, rfl⟩ := List.mem_iff_getElem.1 hx
 rw [← qf_lt hi]; exact (h i).sz hb
theorem IntL.of {b : Nat} {f : List Rat} (h : ∀ x ∈ f, IntB b x) : IntL b f := fun i => by
 by_cases hi : i < f.length
 ·rw [qf_lt hi]; exact h _ (List.getElem_mem hi)
 ·rw [qf_ge (by omega)]; exact .zero
theorem IntL.add {b c : Nat} {f g : List Rat} (hf : IntL b f) (hg : IntL c g) : IntL (b + c) (pAdd f g) := fun i => by rw [qf_add]; exact (hf i).add (hg i)
theorem IntL.sub {b c : Nat} {f g : List Rat} (hf : IntL b f) (hg : IntL c g) : IntL (b + c) (pSub f g) := fun i => by rw [qf_sub]; exact (hf i).sub (hg i)
theorem mulTo_int {b c : Nat} {f g : List Rat} (hf : IntL b f) (hg : IntL c g) (k : Nat) : ∀ i, IntB (i * (b * c)) (mulTo f g k i)
 | 0 => IntB.zero
 | i + 1 => by
  rw [mulTo, Nat.succ_mul]
  split
  ·exact (mulTo_int hf hg k i).add ((hf i).mul (hg _))
  ·exact (mulTo_int hf hg k i).mono (by omega)
theorem mulTo_cap (f g : List Rat) (k i : Nat) (h : f.length ≤ i) : mulTo f g k i = mulTo f g k f.length := by
 induction i with
 | zero => have : f.length = 0 := by omega
           rw [this]
 | succ i ih =>
  by_cases hi : f.length = i + 1
  ·rw [hi]
  ·rw [mulTo, ih (by omega), qf_ge (f := f) (i := i) (by omega), Rat.zero_mul, Rat.add_zero, ite_self]
theorem IntL.mul {b c : Nat} {f g : List Rat} (hf : IntL b f) (hg : IntL c g) : IntL (f.length * (b * c)) (pMul f g) := fun i => by rw [qf_pMul]; exact mulTo_int hf hg i f.length
theorem MulOk.int {b c : Nat} {f g : List Rat} (hf : IntL b f) (hg : IntL c g) (hb : b < BB) (hc : c < BB) (h : (f.length + 1) * (b * c) < BB) : MulOk f g := by
 refine ⟨hf.szL hb, hg.szL hc, fun i j => ((hf i).mul (hg j)).sz ?_, fun k i => ?_⟩
 ·exact Nat.lt_of_le_of_lt (Nat.le_mul_of_pos_left (b * c) (show 0 < f.length + 1 by omega)) h
 ·have hs : f.length * (b * c) ≤ (f.length + 1) * (b * c) := Nat.mul_le_mul_right _ (by omega)
  by_cases hi : i ≤ f.length
  ·have := Nat.mul_le_mul_right (b * c) hi
   exact (mulTo_int hf hg k i).sz (by omega)
  ·rw [mulTo_cap _ _ _ _ (by omega)]
   exact (mulTo_int hf hg k f.length).sz (by omega)
theorem xRest_int {b c : Nat} {f g : List Rat} (hf : IntL b f) (hg : IntL c g) (hm : qf g (g.length - 1) = 1) : ∀ j i, IntB (b * (c + 1) ^ j) (xRest f g j i)
 | 0, i => by rw [Nat.pow_zero, Nat.mul_one]; exact hf i
 | j + 1, i => by
  have ih := xRest_int hf hg hm j
  rw [xRest_succ]
  have hQ : IntB (b * (c + 1) ^ j) (xQ f g j) := by
   unfold xQ; rw [hm, rat_inv_one, Rat.mul_one]; exact ih _
  have e : b * (c + 1) ^ (j + 1) = b * (c + 1) ^ j + b * (c + 1) ^ j * c := by rw [Nat.pow_succ, ← Nat.mul_assoc, Nat.mul_add, Nat.mul_one, Nat.add_comm]
  unfold xStep
  split
  ·rw [e]; exact (ih i).sub (hQ.mul (hg _))
  ·exact (ih i).mono (by rw [e]; exact Nat.le_add_right _ _)
theorem XdOk.int {b c : Nat} {f g : List Rat} (hf : IntL b f) (hg : IntL c g) (hm : qf g (g.length - 1) = 1) (hc : c < BB) (h : b * (c + 1) ^ (f.length - g.length + 1) < BB) : XdOk f g := by
 have key : ∀ j, j < f.length - g.length + 1 → b * (c + 1) ^ j * (c + 1) < BB := fun j hj => by
  rw [Nat.mul_assoc, ← Nat.pow_succ]
  exact Nat.lt_of_le_of_lt (Nat.mul_le_mul_left b (Nat.pow_le_pow_right (by omega) (by omega))) h
 have hQ : ∀ j, IntB (b * (c + 1) ^ j) (xQ f g j) := fun j => by unfold xQ; rw [hm, rat_inv_one, Rat.mul_one]; exact xRest_int hf hg hm j _
 refine ⟨hg.szL hc, fun j i hj => (xRest_int hf hg hm j i).sz ?_, fun j hj => (hQ j).sz ?_, fun j i hj => ((hQ j).mul (hg i)).sz ?_⟩
 ·have := key j hj; have := Nat.le_mul_of_pos_right (b * (c + 1) ^ j) (show 0 < c + 1 by omega); omega
 ·have := key j hj; have := Nat.le_mul_of_pos_right (b * (c + 1) ^ j) (show 0 < c + 1 by omega); omega
 ·have := key j hj; rw [Nat.mul_add] at this; omega
theorem dvM_int {b : Nat} {g r : List Rat} (hr : IntL b r) (hm : qf g (g.length - 1) = 1) : IntL b (dvM g r) := fun i => by
 unfold dvM
 rw [qf_mono, hm, Rat.div_def, rat_inv_one, Rat.mul_one]
 split
 ·exact hr _
 ·exact .zero
theorem dvM_one (g r : List Rat) (i : Nat) (h : i ≠ r.length - g.length) : qf (dvM g r) i = 0 := by unfold dvM; rw [qf_mono, if_neg h]
theorem dvMul_int {b c : Nat} {g r : List Rat} (hr : IntL b r) (hg : IntL c g) (hm : qf g (g.length - 1) = 1) (k i : Nat) : IntB (b * c) (mulTo (dvM g r) g k i) := by
 rw [mulTo_one (dvM_one g r)]
 split
 ·exact (dvM_int hr hm _).mul (hg _)
 ·exact .zero
theorem DvOkL.int {c : Nat} {g : List Rat} (hg : IntL c g) (hm : qf g (g.length - 1) = 1) (hc : c < BB) : ∀ (n b : Nat) (q r : List Rat), IntL b q → IntL b r → b * (c + 2) ^ n < BB → DvOkL g n q r
 | 0, _, _, _, _, _, _ => trivial
 | n + 1, b, q, r, hq, hr, h => by
  rw [DvOkL]
  split
  ·have h1 : b * (c + 2) * (c + 2) ^ n < BB := by rw [Nat.mul_assoc, Nat.mul_comm (c + 2), ← Nat.pow_succ]; exact h
   have h2 : b * (c + 2) < BB := Nat.lt_of_le_of_lt (Nat.le_mul_of_pos_right _ (Nat.pow_pos (by omega))) h1
   have h3 : b * (c + 2) = b * c + b * 2 := Nat.mul_add _ _ _
   have hM := dvM_int hr hm
   have hP : IntL (b * c) (pMul (dvM g r) g) := fun i => by rw [qf_pMul]; exact dvMul_int hr hg hm i _
   refine ⟨hq.szL (by omega), hr.szL (by omega), hM.szL (by omega), ⟨hM.szL (by omega), hg.szL hc, fun i j => ((hM i).mul (hg j)).sz (by omega), fun k i => (dvMul_int hr hg hm k i).sz (by omega)⟩, hP.szL (by omega), ?_⟩
   exact DvOkL.int hg hm hc n (b * (c + 2)) _ _ ((hq.add hM).mono (by omega)) ((hr.sub hP).mono (by omega)) h1
  ·trivial
theorem IntL.trm {b : Nat} {f : List Rat} (h : IntL b f) : IntL b (trm f) := fun i => by rw [qf_trm]; exact h i
theorem DvOk.int {b c : Nat} {f g : List Rat} (hf : IntL b f) (hg : IntL c g) (hm : qf g (g.length - 1) = 1) (hc : c < BB) (h : b * (c + 2) ^ (f.length + 1) < BB) : DvOk f g :=
 ⟨hg.szL hc, DvOkL.int hg hm hc _ b _ _ (fun i => by rw [qf_ge (by simp)]; exact .zero) hf.trm h⟩
end Gx
end
section
/- Cyclotomic fields of small primes: the reference's. -/
set_option autoImplicit false
namespace Gx
open Go Go.Proofs
set_option maxRecDepth 10000
theorem pw_BB (k : Nat) (h : k < 8 * BBn) : 2 ^ k < BB := by unfold BB; rw [show (256 : Nat) = 2 ^ 8 from rfl, ← Nat.pow_mul]; exact Nat.pow_lt_pow_right (by decide) h
theorem lt_BB {n k : Nat} (h : n ≤ 2 ^ k) (hk : k ≤ 4000) : n < BB := Nat.lt_of_le_of_lt h (pw_BB k (by unfold BBn; omega))
theorem r6_Of {H : Heap} {v : Value} {l : List MI} (hv : LV H v l) (hl : l.length ≤ 1000000) (hi : ∀ x ∈ l, I64 x.v) : Yields 41 [v] H (fun v H' => OV H.length H' v (pOf l)) := by
 obtain ⟨a, rfl, hs⟩ := hv
 refine y_raw (by decide) Tryz.func41 rfl ?_
 intro lk hlk
 obtain ⟨F, hF⟩ : ∃ F : Nat → Rat, F = fun i => (((l.getD i ⟨0⟩).v : Int) : Rat) := ⟨_, rfl⟩
 have hmap : l.map (fun x => ((x.v : Int) : Rat)) = mapR F l.length := by
  refine List.ext_getElem (by simp [mapR]) fun i h1 h2 => ?_
  rw [List.length_map] at h1
  simp [mapR, hF, h1]
 unfold pOf
 rw [hmap]
 simp -dsimp only [go_sem]
 refine r_loop (m := fun (s : Nat × Option Addr) => l.length - s.1) (I := fun s σ H' => s.1 ≤ l.length ∧ Ext H H' ∧ Own H.length H' s.2 (mapR F s.1) ∧ σ 6 = .slice a l.length l.length ∧ σ 7 = .int .i64 (l.length : Int) ∧ σ 3 = .slice s.2 s.1 s.1 ∧ σ 8 = .int .i64 (s.1 : Int)) (0, none) ⟨Nat.zero_le _, Ext.refl _, Own.nil, rfl, rfl, rfl, rfl⟩ ?_
 rintro ⟨i, c⟩ σ H' ⟨h1, hE, hO, s6, s7, s3, s8⟩
 simp only at h1 hO s3 s8
 have hlen := mapR_len F i
 by_cases hil : i < l.length
 ·have f1 := ltI hil
  have e7 := inc64 hil (by omega)
  obtain ⟨b, o, B, rfl, hB, hz, hg⟩ := hs.mi i hil
  have hB' := hE.live hB
  have k1 := fun lk H' => r3_FromInt lk H' l[i].v (hi _ (List.getElem_mem hil))
  have hFi : ((l[i].v : Int) : Rat) = F i := by simp [hF, hil]
  rw [hFi] at k1
  have hap := ap_rat (lk := lk) (t := 23) (t2 := 23) te_Poly te_Poly hO hlk hlen.symm (by omega) (F i)
  have hO2 := own_rat hE hO (F i) [⟨rC (F i), 3, false⟩]
  rw [← mapR_succ] at hO2
  simp -dsimp only [go_sem, s6, s7, s3, s8, f1, hB', hz, hg, hil, k1, reps, hap, e7]
  exact next (i + 1, _) (by show l.length - (i + 1) < l.length - i; omega) ⟨hil, ext_rat hE hO _ _, hO2, s6, s7, rfl, rfl⟩
 ·have hi' : i = l.length := by omega
  subst hi'
  have f1 := nltI l.length
  simp -dsimp only [go_sem, s6, s7, s3, s8, f1]
  refine ob_y (r6_Trim (f := mapR F l.length) (by omega) ⟨c, by rw [hlen], hO.sl⟩) (by have := hE.le; omega) ?_
  rintro v H2 hE2 ⟨a', rfl, hO'⟩
  simp -dsimp only [go_sem]
  exact ⟨hE.trans hE2, a', rfl, hO'.low hE.le⟩
theorem mi_blk (H : Heap) (z : Int) : LV (H ++ [⟨[.int .i64 z], 1, false⟩]) (.slice (some ⟨H.length, 0, none⟩) 1 1) (mis [z]) := ⟨_, rfl, SL.blk (by rw [ilive_new]; rfl)⟩
theorem pOf_one : pOf (mis [1]) = [1] := by decide +kernel
def pwP (n : Nat) : List Rat := pSub (pMono 1 n) [1]
theorem int_one : IntL 1 [1] := .of fun x hx => by rw [List.mem_singleton.1 hx]; exact ⟨rfl, by decide⟩
theorem int_mono (n : Nat) : IntL 1 (pMono 1 n) := fun i => by
 rw [qf_mono]; split
 ·exact ⟨rfl, by decide⟩
 ·exact .zero
theorem pwP_int (n : Nat) : IntL 2 (pwP n) := (int_mono n).sub int_one
theorem pwP_len (n : Nat) : (pwP n).length ≤ n + 1 := by
 have h1 := pSub_le (pMono 1 n) [1]; have h2 := pMono_le 1 n
 unfold pwP; simp only [List.length_cons, List.length_nil] at h1; omega
theorem r47_power {H : Heap} (n : Nat) (hn : n ≤ 1000) : Yields 125 [.int .i64 (n : Int)] H (fun v H' => OV H.length H' v (pwP n)) := by
 refine y_raw (by decide) Tryz.func125 rfl ?_
 intro lk hlk
 simp -dsimp only [go_sem, r3_one]
 refine ob_y (r6_Monomial 1 n (by omega)) hlk ?_
 rintro v1 H1 hE1 hO1
 have l1 := hE1.le
 simp -dsimp only [go_sem, reps]
 have hE2 := Ext.app H1 [⟨[.int .i64 1], 1, false⟩]
 refine ob_y (r6_Of (mi_blk H1 1) (by simp [mis]) (by intro x hx; simp [mis] at hx; subst hx; exact ⟨by decide, by decide⟩)) (by have := hE2.le; omega) ?_
 rintro v2 H2 hE3 hO2
 have l3 := hE3.le
 rw [pOf_one] at hO2
 simp -dsimp only [go_sem]
 have h2 := pMono_le 1 n
 refine ob_y (r6_Sub (hO1.lv.ext (hE2.trans hE3)) hO2.lv ((int_mono n).szL (lt_BB (k := 1) (by decide) (by decide))) (int_one.szL (lt_BB (k := 1) (by decide) (by decide))) (by omega) (by simp)) (by have := hE2.le; omega) ?_
 rintro v3 H3 hE4 ⟨a, rfl, hO3⟩
 simp -dsimp only [go_sem]
 exact ⟨hE1.trans (hE2.trans (hE3.trans hE4)), a, rfl, hO3.low (by have := hE2.le; omega)⟩
def phiP (p : Nat) : List Rat := List.replicate p 1
theorem phiP_len (p : Nat) : (phiP p).length = p := List.length_replicate
theorem phiP_int (p : Nat) : IntL 1 (phiP p) := .of fun x hx => by rw [List.eq_of_mem_replicate hx]; exact ⟨rfl, by decide⟩
theorem phiP_get (p i : Nat) (h : i < p) : qf (phiP p) i = 1 := by rw [qf_lt (by rw [phiP_len]; exact h)]; exact List.getElem_replicate _
theorem phiP_nrm (p : Nat) : Nrm (phiP p) := fun h => by
 have := List.length_pos_iff.2 h
 rw [phiP_len] at this ⊢
 rw [phiP_get p _ (by omega)]; decide
theorem phiP_ne {p : Nat} (h : 0 < p) : phiP p ≠ [] := by intro h0; have := phiP_len p; rw [h0] at this; simp at this; omega
theorem phiP_top {p : Nat} (h : 0 < p) : qf (phiP p) ((phiP p).length - 1) = 1 := by rw [phiP_len]; exact phiP_get _ _ (by omega)
theorem phi_div : ∀ p ∈ P9, pDiv (pMul [1] (pwP p)) (pMul [1] (pwP 1)) = phiP p := by decide +kernel
theorem phi_mod : ∀ p ∈ P9, ∀ d, d < p → 2 ≤ d → p % d ≠ 0 := by decide
theorem phi_under : pMul [1] (pwP 1) = [-1, 1] := by decide +kernel
theorem phi_over (p : Nat) : IntL 2 (pMul [1] (pwP p)) := by
 have := int_one.mul (pwP_int p)
 simpa using this
theorem r47_Phi {p : Nat} (hp : p ∈ P9) (H : Heap) : Yields 71 [.int .i64 (p : Int)] H (fun v H' => LV H' v (phiP p)) := by
 obtain ⟨hp2, hp23⟩ := p9_le hp
 refine y_raw (by decide) Tryz.func71 rfl ?_
 intro lk hlk
 simp -dsimp only [go_sem, reps]
 have hE1 := Ext.app H [⟨[.int .i64 1], 1, false⟩]
 refine ob_y (r6_Of (mi_blk H 1) (by simp [mis]) (by intro x hx; simp [mis] at hx; subst hx; exact ⟨by decide, by decide⟩)) (by have := hE1.le; omega) ?_
 rintro v1 H1 hE2 hO1
 rw [pOf_one] at hO1
 simp -dsimp only [go_sem, reps]
 have hE3 := Ext.app H1 [⟨[.int .i64 1], 1, false⟩]
 refine ob_y (r6_Of (mi_blk H1 1) (by simp [mis]) (by intro x hx; simp [mis] at hx; subst hx; exact ⟨by decide, by decide⟩)) (by have := hE1.le; have := hE2.le; have := hE3.le; omega) ?_
 rintro v2 H2 hE4 hO2
 rw [pOf_one] at hO2
 simp -dsimp only [go_sem]
 have hE := hE1.trans (hE2.trans (hE3.trans hE4))
 refine r_loop (m := fun (s : Nat × Value × Value) => p + 1 - s.1) (I := fun s σ H' => 1 ≤ s.1 ∧ s.1 ≤ p + 1 ∧ Ext H H' ∧ LV H' s.2.1 (if s.1 ≤ p then [1] else pMul [1] (pwP p)) ∧ LV H' s.2.2 (if s.1 ≤ 1 then [1] else pMul [1] (pwP 1)) ∧ σ 0 = .int .i64 (p : Int) ∧ σ 3 = s.2.1 ∧ σ 4 = s.2.2 ∧ σ 5 = .int .i64 (s.1 : Int)) (1, v1, v2) ⟨Nat.le_refl _, by simp only; omega, hE, by rw [if_pos (show 1 ≤ p by omega)]; exact hO1.lv.ext (hE3.trans hE4), hO2.lv, rfl, rfl, rfl, rfl⟩ ?_
 clear hO1 hO2 hE1 hE2 hE3 hE4 hE v1 v2 H1 H2
 rintro ⟨d, vo, vu⟩ σ H' ⟨h1, h2, hE, ho, hu, s0, s3, s4, s5⟩
 simp only at h1 h2 ho hu s3 s4 s5
 have hlo := hE.le
 have hd0 : ((d : Int) ≠ 0) = True := eq_true (by omega)
 by_cases hd : d ≤ p
 ·have f1 : ((d : Int) ≤ (p : Int)) = True := eq_true (by omega)
  have e7 := inc64 (i := d) (n := p + 1) (by omega) (by omega)
  have et : ((p : Int)).tmod (d : Int) = ((p % d : Nat) : Int) := rfl
  by_cases hm : p % d = 0
  ·have f2 : (((p % d : Nat) : Int) = 0) = True := eq_true (by omega)
   have eq : IntKind.i64.wrap (((p : Int)).tdiv (d : Int)) = ((p / d : Nat) : Int) := by
    have : ((p : Int)).tdiv (d : Int) = ((p / d : Nat) : Int) := rfl
    have h3 := Nat.div_le_self p d
    rw [this]
    generalize p / d = e at h3
    rw [w64 (by omega) (by omega)]
   have hd1 : d = 1 ∨ d = p := by
    by_cases h3 : d = 1
    ·exact .inl h3
    ·by_cases h4 : d = p
     ·exact .inr h4
     ·exact absurd hm (phi_mod p hp d (by omega) (by omega))
   rcases hd1 with hdd | hdd
   ·rw [if_pos (by omega)] at ho
    rw [if_pos (by omega)] at hu
    have e9 : p / d = p := by rw [hdd]; exact Nat.div_one p
    rw [e9] at eq
    have km := fun lk H' => r4_Moe hp lk H'
    have q1 : ((-1 : Int) = 1) = False := eq_false (by decide)
    simp -dsimp only [go_sem, s0, s3, s4, s5, f1, hd0, et, f2, eq, km, q1]
    refine ob_y (r47_power d (by omega)) (by omega) ?_
    rintro v5 H5 hE5 hO5
    have l5 := hE5.le
    simp -dsimp only [go_sem, s0, s3, s4, s5]
    have hl := pwP_len d
    refine ob_y (r6_Mul (hu.ext hE5) hO5.lv (.int int_one (pwP_int d) (lt_BB (k := 1) (by decide) (by decide)) (lt_BB (k := 1) (by decide) (by decide)) (lt_BB (k := 10) (by simp) (by decide))) (by simp) (by omega)) (by omega) ?_
    rintro v6 H6 hE6 hO6
    simp -dsimp only [go_sem, s0, s3, s4, s5, e7]
    rw [hdd] at hO6
    exact next (d + 1, vo, v6) (by show p + 1 - (d + 1) < p + 1 - d; omega) ⟨by simp only; omega, by simp only; omega, hE.trans (hE5.trans hE6), by simp only; rw [if_pos (by omega)]; exact ho.ext (hE5.trans hE6), by simp only; rw [if_neg (by omega)]; exact hO6.lv, s0, s3, rfl, rfl⟩
   ·rw [if_pos hd] at ho
    rw [if_neg (by omega)] at hu
    have e9 : p / d = 1 := by rw [hdd]; exact Nat.div_self (by omega)
    rw [e9] at eq
    have km := fun lk H' => r4_Moe1 lk H'
    rw [show ((1 : Nat) : Int) = 1 from rfl] at eq
    simp -dsimp only [go_sem, s0, s3, s4, s5, f1, hd0, et, f2, eq, km]
    refine ob_y (r47_power d (by omega)) (by omega) ?_
    rintro v5 H5 hE5 hO5
    have l5 := hE5.le
    simp -dsimp only [go_sem, s0, s3, s4, s5]
    have hl := pwP_len d
    refine ob_y (r6_Mul (ho.ext hE5) hO5.lv (.int int_one (pwP_int d) (lt_BB (k := 1) (by decide) (by decide)) (lt_BB (k := 1) (by decide) (by decide)) (lt_BB (k := 10) (by simp) (by decide))) (by simp) (by omega)) (by omega) ?_
    rintro v6 H6 hE6 hO6
    simp -dsimp only [go_sem, s0, s3, s4, s5, e7]
    rw [hdd] at hO6
    exact next (d + 1, v6, vu) (by show p + 1 - (d + 1) < p + 1 - d; omega) ⟨by simp only; omega, by simp only; omega, hE.trans (hE5.trans hE6), by simp only; rw [if_neg (by omega)]; exact hO6.lv, by simp only; rw [if_neg (by omega)]; exact hu.ext (hE5.trans hE6), s0, rfl, s4, rfl⟩
  ·have f2 : (((p % d : Nat) : Int) = 0) = False := eq_false (by omega)
   have hd1 : d ≠ 1 := fun h => hm (by rw [h]; exact Nat.mod_one _)
   have hdp : d ≠ p := fun h => hm (by rw [h]; exact Nat.mod_self _)
   rw [if_pos hd] at ho
   rw [if_neg (by omega)] at hu
   simp -dsimp only [go_sem, s0, s3, s4, s5, f1, hd0, et, f2, e7]
   exact next (d + 1, vo, vu) (by show p + 1 - (d + 1) < p + 1 - d; omega) ⟨by simp only; omega, by simp only; omega, hE, by simp only; rw [if_pos (by omega)]; exact ho, by simp only; rw [if_neg (by omega)]; exact hu, s0, s3, s4, rfl⟩
 ·have hd' : d = p + 1 := by omega
  subst hd'
  have f1 : (((p + 1 : Nat) : Int) ≤ (p : Int)) = False := eq_false (by omega)
  rw [if_neg (by omega)] at ho
  rw [if_neg (by omega), phi_under] at hu
  have hpd := phi_div p hp
  rw [phi_under] at hpd
  have hlo1 := pMul_le [1] (pwP p)
  have hlo2 := pwP_len p
  simp only [List.length_cons, List.length_nil] at hlo1
  have hm : IntL 1 [-1, 1] := .of fun x hx => by
   simp at hx
   rcases hx with rfl | rfl
   ·exact ⟨rfl, by decide⟩
   ·exact ⟨rfl, by decide⟩
  simp -dsimp only [go_sem, s0, s3, s4, s5, f1]
  have hl : (pMul [1] (pwP p)).length ≤ 24 := by omega
  refine ob_y (r6_Div ho hu (by simp) (fun _ => by decide) (.int (phi_over p) hm (by decide) (lt_BB (k := 1) (by decide) (by decide)) (lt_BB (k := 70) (Nat.le_trans (Nat.mul_le_mul_left 2 (Nat.pow_le_pow_right (by decide) (show (pMul [1] (pwP p)).length + 1 ≤ 25 by omega))) (by decide)) (by decide))) (by omega) (by simp)) (by omega) ?_
  rintro v6 H6 hE6 hO6
  rw [hpd] at hO6
  simp -dsimp only [go_sem]
  exact ⟨hE.trans hE6, hO6⟩
theorem phiP_sm (p : Nat) : ∀ x ∈ phiP p, Sm 1024 x := fun x hx => by rw [List.eq_of_mem_replicate hx]; exact (⟨bl_le (by decide), bl_le (by decide)⟩ : Sm 1 (1 : Rat)).mono (by decide)
theorem phiP_form : ∀ p ∈ P9, formF (phiP p) = 0 := by decide +kernel
theorem r47_Field {p : Nat} (hp : p ∈ P9) (H : Heap) : Yields 22 [.int .i64 (p : Int)] H (fun v H' => FV H' v (phiP p)) := by
 refine y_raw (by decide) Tryz.func22 rfl ?_
 intro lk hlk
 simp -dsimp only [go_sem]
 have hE1 := Ext.app H [⟨[.slice none 0 0], 1, false⟩]
 have hl1 := hE1.le
 refine ob_y (r47_Phi hp _) (by omega) ?_
 rintro v1 H1 hE2 ⟨a, rfl, hs⟩
 have hb : ilive H1 H.length = some ⟨[.slice none 0 0], 1, false⟩ := hE2.live (ilive_new _ _)
 simp -dsimp only [go_sem, hb, hlk]
 have hset : ∀ B : Blk, Ext H (H1.set H.length B) := fun B => (hE1.trans hE2).set (Nat.le_refl _) B
 have hb2 : ∀ c : Value, ilive (H1.set H.length ⟨[c], 1, false⟩) H.length = some ⟨[c], 1, false⟩ := fun c => ilive_set_self (ilive_lt hb) rfl
 simp -dsimp only [go_sem, hb2]
 refine ⟨hset _, a, rfl, ?_⟩
 rcases hs with h | ⟨b, o, B, rfl, h2, h3, h4⟩
 ·exact .inl h
 ·refine .inr ⟨b, o, B, rfl, ?_, h3, h4⟩
  have h3 : B.sz = 3 := h3
  have : H.length ≠ b := by
   rintro rfl
   rw [hb] at h2
   injection h2 with h2
   rw [← h2] at h3
   simp at h3
  rw [ilive_set_ne this]; exact h2
def rootP (p r : Nat) : List Rat := pMod (pMono 1 r) (phiP p)
theorem rt_sz (p r : Nat) (hp2 : 2 ≤ p) (hp : p ≤ 23) (hr : r < p) : DvOk (pMono 1 r) (phiP p) ∧ XdOk (pMono 1 r) (phiP p) := by
 have h2 := pMono_le 1 r
 have ht := phiP_top (p := p) (by omega)
 have hb : 1 < BB := lt_BB (k := 1) (by decide) (by decide)
 refine ⟨.int (int_mono r) (phiP_int p) ht hb (lt_BB (k := 60) ?_ (by decide)), .int (int_mono r) (phiP_int p) ht hb (lt_BB (k := 60) ?_ (by decide))⟩
 ·rw [Nat.one_mul]; exact Nat.le_trans (Nat.pow_le_pow_right (by decide) (show (pMono 1 r).length + 1 ≤ 25 by omega)) (by decide)
 ·rw [Nat.one_mul]; exact Nat.le_trans (Nat.pow_le_pow_right (by decide) (show (pMono 1 r).length - (phiP p).length + 1 ≤ 60 by omega)) (by decide)
theorem r47_Root {p : Nat} (hp : p ∈ P9) (k : Int) (H : Heap) : Yields 61 [.int .i64 (p : Int), .int .i64 k] H (fun v H' => OV H.length H' v (rootP p (k % (p : Int)).toNat)) := by
 obtain ⟨hp2, hp23⟩ := p9_le hp
 refine y_raw (by decide) Tryz.func61 rfl ?_
 intro lk hlk
 simp -dsimp only [go_sem]
 refine ob_y (r47_Field hp H) hlk ?_
 rintro v1 H1 hE1 hF
 have l1 := hE1.le
 have h1 := Int.emod_nonneg k (show (p : Int) ≠ 0 by omega)
 have h2 := Int.emod_lt_of_pos k (show 0 < (p : Int) by omega)
 obtain ⟨r, hr⟩ : ∃ r : Nat, (r : Int) = k % (p : Int) := ⟨(k % (p : Int)).toNat, by omega⟩
 have km := fun lk H' => r4_Mod lk H' k (p : Int) (by omega) (by omega)
 rw [← hr] at km ⊢
 have hrp : r < p := by omega
 simp -dsimp only [go_sem, r3_one, km]
 refine ob_y (r6_Monomial 1 r (by omega)) (by omega) ?_
 rintro v2 H2 hE2 hO2
 have l2 := hE2.le
 have hml := pMono_le 1 r
 simp -dsimp only [go_sem]
 refine ob_y (r30_Reduce (hF.ext hE2) hO2.lv (phiP_ne (by omega)) (phiP_nrm p) (rt_sz p r hp2 hp23 hrp).1 (by rw [phiP_len]; omega) (by omega)) (by omega) ?_
 rintro v3 H3 hE3 ⟨a, rfl, hO3⟩
 simp -dsimp only [go_sem]
 exact ⟨hE1.trans (hE2.trans hE3), a, rfl, hO3.low (by omega)⟩
theorem mis_len (l : List Int) : (mis l).length = l.length := by simp [mis]
theorem phi_pOf : ∀ p ∈ P9, pOf (mis (List.replicate p 1)) = phiP p := by decide +kernel
theorem p_cycField {p : Nat} (hp : p ∈ P9) (H : Heap) : Yields 90 [.int .i64 (p : Int)] H (fun v H' => FV H' v (phiP p)) := by
 obtain ⟨hp2, hp23⟩ := p9_le hp
 refine y_raw (by decide) Tryz.func90 rfl ?_
 intro lk hlk
 simp -dsimp only [go_sem]
 have hE1 := Ext.app H [⟨[.slice none 0 0], 1, false⟩]
 have hl1 := hE1.le
 refine ob_y (p_phi hp _) (by omega) ?_
 rintro v0 H0 hE0 hO0
 have hl0 := hE0.le
 simp -dsimp only [go_sem]
 refine ob_y (p_POf hO0.lv (by rw [mis_len, List.length_replicate]; omega) (by intro x hx; simp [mis] at hx; rw [hx.2]; exact ⟨by decide, by decide⟩)) (by omega) ?_
 rintro v1 H1 hE2' ⟨a, rfl, hs⟩
 have hE2 := hE0.trans hE2'
 rw [phi_pOf p hp] at hs ⊢
 have hb : ilive H1 H.length = some ⟨[.slice none 0 0], 1, false⟩ := hE2.live (ilive_new _ _)
 simp -dsimp only [go_sem, hb, hlk]
 have hset : ∀ B : Blk, Ext H (H1.set H.length B) := fun B => (hE1.trans hE2).set (Nat.le_refl _) B
 have hb2 : ∀ c : Value, ilive (H1.set H.length ⟨[c], 1, false⟩) H.length = some ⟨[c], 1, false⟩ := fun c => ilive_set_self (ilive_lt hb) rfl
 simp -dsimp only [go_sem, hb2]
 refine ⟨hset _, a, rfl, ?_⟩
 rcases hs with h | ⟨b, o, B, rfl, h2, h3, h4⟩
 ·exact .inl h
 ·refine .inr ⟨b, o, B, rfl, ?_, h3, h4⟩
  have h3 : B.sz = 3 := h3
  have : H.length ≠ b := by
   rintro rfl
   rw [hb] at h2
   injection h2 with h2
   rw [← h2] at h3
   simp at h3
  rw [ilive_set_ne this]; exact h2
theorem p_conductors {p : Nat} (hp : p ∈ P9) (b : Nat) (H : Heap) (hb : ilive H b = some ⟨[.int .i64 (p : Int)], 1, false⟩) (lk : Nat) : gcall Tryz.prog md lk 88 [.int .i64 24, .slice (some ⟨b, 0, none⟩) 1 1] H = some (.int .i64 0, H) := by
 obtain ⟨hp2, hp23⟩ := p9_le hp
 refine gcall_val rfl Tryz.func88 rfl rfl ?_
 have f1 : ((p : Int) < 1) = False := eq_false (by omega)
 have f2 : (256 < (p : Int)) = False := eq_false (by omega)
 have e1 : IntKind.i64.wrap ((0 : Int) + 1) = 1 := by decide
 have c1 : ((1 : Int) < 1) = False := eq_false (by decide)
 have c0 : ((0 : Int) < 1) = True := eq_true (by decide)
 simp -dsimp only [go_sem]
 refine r_unroll ?_
 simp -dsimp only [go_sem, hb, f1, f2, e1, c0]
 refine r_unroll ?_
 simp -dsimp only [go_sem, c1]
 refine r_unroll ?_
 simp -dsimp only [go_sem, hb, c0]
 refine ob_y (p_units hp H) (Nat.le_refl _) ?_
 rintro v1 H1 hE1 ⟨a, rfl, hO⟩
 have hl : (mis (unitsL p)).length = p - 1 := by rw [mis_len]; simp [unitsL]
 have f3 : (24 < ((p - 1 : Nat) : Int)) = False := eq_false (by omega)
 rw [hl]
 simp -dsimp only [go_sem, f3, e1]
 refine r_unroll ?_
 simp -dsimp only [go_sem, c1]
theorem p_cycFieldF {p : Nat} (hp : p ∈ P9) (H : Heap) : Yields 96 [.int .i64 (p : Int)] H (fun v H' => ∃ k, v = .tuple #[k, .int .i64 0] ∧ FV H' k (phiP p)) := by
 refine y_raw (by decide) Tryz.func96 rfl ?_
 intro lk hlk
 simp -dsimp only [go_sem, reps]
 obtain ⟨H1, hH1⟩ : ∃ H1, H1 = H ++ [⟨[.slice none 0 0], 1, false⟩, ⟨[.int .i64 (p : Int)], 1, false⟩] := ⟨_, rfl⟩
 have hE1 : Ext H H1 := by rw [hH1]; exact Ext.app _ _
 have hl1 : H1.length = H.length + 2 := by rw [hH1]; simp
 have hb : ilive H1 (H.length + 1) = some ⟨[.int .i64 (p : Int)], 1, false⟩ := by rw [hH1, ilive_appN]; rfl
 have hb0 : ilive H1 H.length = some ⟨[.slice none 0 0], 1, false⟩ := by rw [hH1, ilive_app0]; rfl
 have kc := fun lk => p_conductors hp (H.length + 1) H1 hb lk
 rw [← hH1]
 simp -dsimp only [go_sem, kc]
 refine ob_y (p_cycField hp H1) (by omega) ?_
 rintro v1 H2 hE2 ⟨a, rfl, hs⟩
 have hb2 := hE2.live hb0
 simp -dsimp only [go_sem, hb2, hlk]
 have hb3 : ∀ c : Value, ilive (H2.set H.length ⟨[c], 1, false⟩) H.length = some ⟨[c], 1, false⟩ := fun c => ilive_set_self (ilive_lt hb2) rfl
 simp -dsimp only [go_sem, hb3]
 refine ⟨(hE1.trans hE2).set (Nat.le_refl _) _, _, rfl, a, rfl, ?_⟩
 rcases hs with h | ⟨b, o, B, rfl, h2, h3, h4⟩
 ·exact .inl h
 ·refine .inr ⟨b, o, B, rfl, ?_, h3, h4⟩
  have h3 : B.sz = 3 := h3
  have : H.length ≠ b := by
   rintro rfl
   rw [hb2] at h2
   injection h2 with h2
   rw [← h2] at h3
   simp at h3
  rw [ilive_set_ne this]; exact h2
theorem p_modulusOf {p : Nat} (hp : p ∈ P9) (H : Heap) : Yields 47 [.int .i64 (p : Int)] H (fun v H' => LV H' v (phiP p)) := by
 refine y_raw (by decide) Tryz.func47 rfl ?_
 intro lk hlk
 simp -dsimp only [go_sem]
 refine ob_y (p_cycFieldF hp _) (by omega) ?_
 rintro v1 H1 hE1 ⟨k, rfl, a, rfl, hs⟩
 simp -dsimp only [go_sem]
 exact ⟨by have := hE1.le; omega, hE1.more _, a, rfl, (Ext.app _ _).sl hs⟩
def rootT (p r : Nat) : List Rat := if r + 1 < p then mapR (fun i => if i = r then 1 else 0) (r + 1) else List.replicate (p - 1) (-1)
theorem rootP_T : ∀ p ∈ P9, ∀ r, r < p → rootP p r = rootT p r := by decide +kernel
theorem rootP_int {p r : Nat} (hp : p ∈ P9) (hr : r < p) : IntL 1 (rootP p r) := by
 rw [rootP_T p hp r hr]
 refine .of fun x hx => ?_
 unfold rootT at hx
 split at hx
 ·obtain ⟨i, _, rfl⟩ := List.mem_map.1 hx
  split
  ·exact ⟨rfl, by decide⟩
  ·exact .zero
 ·rw [List.eq_of_mem_replicate hx]; exact ⟨rfl, by decide⟩
theorem rootP_len {p r : Nat} (hp : p ∈ P9) : (rootP p r).length ≤ p - 1 ∧ Nrm (rootP p r) := by
 have h2 := (p9_le hp).1
 have := pMod_len (f := pMono 1 r) (phiP_ne (p := p) (by omega)) (phiP_nrm p)
 rw [phiP_len] at this
 exact ⟨by unfold rootP; omega, this.2.2⟩
structure Elm (p : Nat) (f : List Rat) : Prop where
 n : Nrm f
 l : f.length ≤ p - 1
 b : IntL (2 ^ 100) f
theorem Elm.sm {p : Nat} {f : List Rat} (h : Elm p f) : ∀ x ∈ f, Sm 1024 x := fun x hx => by
 obtain ⟨i, hi, rfl⟩ := List.mem_iff_getElem.1 hx
 rw [← qf_lt hi]
 exact ((h.b i).sm (k := 13) (by decide) (by decide)).mono (by decide)
theorem Elm.ck {p : Nat} {f : List Rat} (hp : p ∈ P9) (h : Elm p f) : elE (phiP p) (f.map rq) = 0 := by
 obtain ⟨hp2, hp23⟩ := p9_le hp
 unfold elE
 rw [ckP_map h.n (by have := h.l; omega) h.sm, if_neg (fun h => h rfl), List.length_map, phiP_len, if_neg (by have := h.l; omega)]
section
variable {lk : Nat} {H0 H : Heap} {a : Option Addr} {l : List MI} {n : Nat}
theorem te_ints : telem Tryz.prog 71 = some 3 := by simp only [go_sem]
theorem ap_mi (hO : Own H0.length H a l) (hlk : lk ≤ H0.length) (hn : n = l.length) (hle : n ≤ 1000000) (z : Int) :
  iappend Tryz.prog lk (H ++ [⟨[.int .i64 z], 1, false⟩]) 71 71 (.slice a n n) (.slice (some ⟨H.length, 0, none⟩) 1 1) = some (.slice (some ⟨H.length + 1, 0, none⟩) (n + 1) (n + 1), kill (H ++ [⟨[.int .i64 z], 1, false⟩]) a ++ [⟨cells l ++ [.int .i64 z], 1, false⟩]) := by
 have := ap_ownN (P := Tryz.prog) (lk := lk) (t := 71) (t2 := 71) hO hlk hn [⟨[.int .i64 z], 1, false⟩] 0 [.int .i64 z] 1 rfl rfl rfl
 refine this.trans ?_
 rw [te_ints]
 simp only [go_sem]
 rw [if_pos (by omega)]
theorem own_mi (hE : Ext H0 H) (hO : Own H0.length H a l) (z : Int) (N : List Blk) : Own H0.length (kill (H ++ N) a ++ [⟨cells l ++ [.int .i64 z], 1, false⟩]) (some ⟨H.length + N.length, 0, none⟩) (l ++ [⟨z⟩]) :=
 own_ap (lo := H0.length) (H := H) (a := a) (l := l) ⟨z⟩ N (by have := hE.le; omega)
theorem ext_mi (hE : Ext H0 H) (hO : Own H0.length H a l) (N M : List Blk) : Ext H0 (kill (H ++ N) a ++ M) := ((hO.more N).kill (hE.more N)).more M
end
def subF (p : Int) (f i : Nat) : List Int := ((List.range i).filter (subIn p f)).map fun h : Nat => (h : Int)
theorem subF_zero (p : Int) (f : Nat) : subF p f 0 = [] := rfl
theorem subF_succ (p : Int) (f i : Nat) : subF p f (i + 1) = if subIn p f i = true then subF p f i ++ [(i : Int)] else subF p f i := by
 unfold subF
 rw [List.range_succ, List.filter_append, List.map_append]
 by_cases h : subIn p f i = true
 ·rw [if_pos h]; simp [h]
 ·rw [if_neg h]; simp [h]
theorem subF_len (p : Int) (f i : Nat) : (subF p f i).length ≤ i := by
 unfold subF
 rw [List.length_map]
 exact Nat.le_trans (List.length_filter_le _ _) (by simp)
theorem subF_end (p f : Nat) (i : Nat) (h : p ≤ i) : subF p f i = subF p f p := by
 induction i with
 | zero => have : p = 0 := by omega
           subst this; rfl
 | succ i ih =>
  by_cases hp : p = i + 1
  ·rw [hp]
  ·rw [subF_succ, if_neg, ih (by omega)]
   unfold subIn
   rw [decide_eq_true_eq]
   rintro ⟨_, h2, _⟩
   omega
theorem subF_zero1 (p : Int) (f : Nat) : subF p f 1 = [] := by
 rw [subF_succ, if_neg]
 ·rfl
 ·unfold subIn; rw [decide_eq_true_eq]; rintro ⟨h, _⟩; omega
theorem mis_app (l r : List Int) : mis (l ++ r) = mis l ++ mis r := by simp [mis]
def subL (p f : Nat) : List Int := subF p f p
theorem ckB_zero {p f : Int} (h : pCkB p f = 0) : 2 ≤ p ∧ p ≤ 23 ∧ p.toNat ∈ P9 ∧ 1 ≤ f ∧ (p - 1).tmod f = 0 := by
 unfold pCkB at h
 by_cases h0 : pCk p = 0
 ·rw [if_neg (fun h => h h0)] at h
  obtain ⟨h1, h2, h3⟩ := pCk_zero h0
  by_cases h4 : f < 1 ∨ (p - 1).tmod f ≠ 0
  ·rw [if_pos h4] at h; omega
  ·refine ⟨h1, h2, pr9 h3 (by omega), by omega, ?_⟩
   exact Classical.byContradiction fun h5 => h4 (.inr h5)
 ·rw [if_pos h0] at h; exact absurd h h0
theorem gcall_own_ex' {g : FuncId} {fn : Func} {body : Code} {args : List Value} {H : Heap} (hm : md g = 2) (hg : Tryz.prog.funcs[g]? = some fn) (hb : fn.body = some body) {R : Value → List Blk → Prop} (h : Runs Tryz.prog md H.length body (args0 args) H (Ends Tryz.prog fn fun u H' => ∃ v N, compV H' H.length u = some (v, N) ∧ R v N)) (R' : Value → Heap → Prop) (hr : ∀ v N, R v N → R' v (H ++ N)) : Yields g args H R' := by
 intro lk _
 obtain ⟨v, N, h1, h2⟩ := gcall_own_ex (lk := lk) hm hg hb h
 exact ⟨v, H ++ N, h1, Ext.app _ _, hr v N h2⟩
theorem p_SubgroupOk {p f : Nat} (hp : p ∈ P9) (hf : 1 ≤ f) (hf2 : f ≤ 9223372036854775807) (hc : pCkB p f = 0) (H : Heap) : Yields 32 [.int .i64 (p : Int), .int .i64 (f : Int)] H (fun v H' => ∃ w, v = .tuple #[w, .int .i64 0] ∧ LV H' w (mis (subL p f))) := by
 obtain ⟨hp2, hp23⟩ := p9_le hp
 have hk := fun lk H' => p_perCheckB lk H' (p : Int) (f : Int)
 rw [hc] at hk
 refine gcall_own_ex' (R := fun v N => ∃ w, v = .tuple #[w, .int .i64 0] ∧ LV (H ++ N) w (mis (subL p f))) rfl Tryz.func32 rfl ?_ _ (fun v N h => h)
 have hsub := fun lk H' => p_subgroup lk H' (p : Int) f (by omega) (by omega) hf2
 simp -dsimp only [go_sem, hk, hsub]
 refine r_loop (m := fun (s : Nat × Option Addr) => 24 - s.1) (I := fun s σ H' => s.1 ≤ 24 ∧ Ext H H' ∧ Own H.length H' s.2 (mis (subF p f s.1)) ∧ (s.2 = none ↔ mis (subF p f s.1) = []) ∧ σ 7 = .slice s.2 (subF p f s.1).length (subF p f s.1).length ∧ σ 18 = .agg (List.toArray (subTo p f 24)) ∧ σ 19 = .int .i64 (s.1 : Int)) (0, none) ⟨by simp only; omega, Ext.refl _, Own.nil, by simp [subF_zero, mis], rfl, rfl, rfl⟩ ?_
 rintro ⟨i, c⟩ σ H' ⟨h1, hE, hO, hN, s7, s18, s19⟩
 simp only at h1 hO hN s7 s19
 have hlen : (subF (p : Int) f i).length = (mis (subF p f i)).length := (mis_len _).symm
 by_cases hi : i < 24
 ·have f1 : ((i : Int) < 24) = True := eq_true (by omega)
  have e7 := inc64 hi (by omega)
  have hg := subTo_get (p : Int) f i hi
  have hi0 : (0 ≤ (i : Int)) = True := eq_true (by omega)
  have e1 : ((i : Int)).toNat = i := by omega
  have hle := subF_len (p : Int) f i
  cases hs : subIn (p : Int) f i with
  | false =>
   rw [hs] at hg
   have hst : subF (p : Int) f (i + 1) = subF p f i := by rw [subF_succ, if_neg (by rw [hs]; decide)]
   simp -dsimp only [go_sem, s7, s18, s19, f1, hi0, e1, hg, e7]
   exact ⟨by omega, next (i + 1, c) (by show 24 - (i + 1) < 24 - i; omega) ⟨hi, hE, by rw [hst]; exact hO, by rw [hst]; exact hN, by rw [hst]; exact s7, s18, rfl⟩⟩
  | true =>
   rw [hs] at hg
   have hst : subF (p : Int) f (i + 1) = subF p f i ++ [(i : Int)] := by rw [subF_succ, if_pos hs]
   have hap := ap_mi (lk := H.length) hO (Nat.le_refl _) hlen (by omega) (i : Int)
   have hO2 := own_mi hE hO (i : Int) [⟨[.int .i64 (i : Int)], 1, false⟩]
   have hst2 : mis (subF (p : Int) f (i + 1)) = mis (subF p f i) ++ [⟨(i : Int)⟩] := by rw [hst, mis_app]; rfl
   have hst3 : (subF (p : Int) f (i + 1)).length = (subF (p : Int) f i).length + 1 := by rw [hst, List.length_append]; rfl
   rw [← hst2] at hO2
   simp -dsimp only [go_sem, s7, s18, s19, f1, hi0, e1, hg, e7, reps, hap]
   exact ⟨by omega, next (i + 1, _) (by show 24 - (i + 1) < 24 - i; omega) ⟨hi, ext_mi hE hO _ _, hO2, by rw [hst2]; simp, by rw [hst3]; rfl, s18, rfl⟩⟩
 ·have hi' : i = 24 := by omega
  subst hi'
  have f1 : (((24 : Nat) : Int) < 24) = False := eq_false (by omega)
  have hL : subF (p : Int) f 24 = subL p f := subF_end p f 24 (by omega)
  rw [hL] at hO hN s7
  simp -dsimp only [go_sem, s7, s18, s19, f1]
  rcases hO with ⟨rfl, h2⟩ | ⟨b, rfl, h2, h3⟩
  ·have h0 : (subL p f).length = 0 := by rw [← mis_len, h2]; rfl
   refine ⟨.tuple #[.slice none 0 0, .int .i64 0], [], ?_, _, rfl, none, by rw [h2]; rfl, .inl ⟨rfl, h2⟩⟩
   rw [h0]; rfl
  ·have hcl : (cells (mis (subL p f))).length = (subL p f).length * 1 := by rw [cells_len, mis_len]; rfl
   have hkok : (cells (mis (subL p f))).all kok0 = true := cells_kok (fun x => rfl) _
   have htk : (cells (mis (subL p f))).take ((subL p f).length * 1) = cells (mis (subL p f)) := List.take_of_length_le (by rw [hcl]; exact Nat.le_refl _)
   refine ⟨.tuple #[.slice (some ⟨H.length, 0, none⟩) (subL p f).length (subL p f).length, .int .i64 0], [⟨cells (mis (subL p f)), 1, false⟩], ?_, _, rfl, some ⟨H.length, 0, none⟩, by rw [mis_len], SL.blk (by rw [ilive_new]; rfl)⟩
   have h3' : ilive H' b = some ⟨cells (mis (subL p f)), 1, false⟩ := h3
   simp only [compV, compList, comp1, compCell, if_neg (Nat.not_lt.2 h2), h3', List.drop_zero, htk, hkok]
   rw [if_pos (by refine ⟨trivial, by rw [hcl, Nat.zero_add]; exact Nat.le_refl _, by simp, by simp⟩)]
   rfl
theorem r48_Subgroup {p f : Nat} (hp : p ∈ P9) (hf2 : f ≤ 9223372036854775807) (H : Heap) : Yields 35 [.int .i64 (p : Int), .int .i64 (f : Int)] H (fun v H' => OV H.length H' v (mis (subL p f))) := by
 obtain ⟨hp2, hp23⟩ := p9_le hp
 refine y_raw (by decide) Tryz.func35 rfl ?_
 intro lk hlk
 simp -dsimp only [go_sem]
 refine r_loop (m := fun (s : Nat × Option Addr) => p - s.1) (I := fun s σ H' => 1 ≤ s.1 ∧ s.1 ≤ p ∧ Ext H H' ∧ Own H.length H' s.2 (mis (subF p f s.1)) ∧ σ 0 = .int .i64 (p : Int) ∧ σ 1 = .int .i64 (f : Int) ∧ σ 5 = .slice s.2 (subF p f s.1).length (subF p f s.1).length ∧ σ 6 = .int .i64 (s.1 : Int)) (1, none) ⟨Nat.le_refl _, by simp only; omega, Ext.refl _, by rw [subF_zero1]; exact Own.nil, rfl, rfl, by rw [subF_zero1]; rfl, rfl⟩ ?_
 rintro ⟨i, c⟩ σ H' ⟨h0, h1, hE, hO, s0, s1, s5, s6⟩
 simp only at h0 h1 hO s5 s6
 have hlen : (subF (p : Int) f i).length = (mis (subF p f i)).length := (mis_len _).symm
 by_cases hi : i < p
 ·have f1 := ltI hi
  have e7 := inc64 hi (by omega)
  have hpow := fun lk H' => r4_Pow lk H' (i : Int) (p : Int) f hf2 (by omega) (by omega)
  have hle := subF_len (p : Int) f i
  have hsub : decide (pwm (p : Int) ((1 : Int).tmod p) ((i : Int) % p) f = 1) = subIn p f i := by
   unfold subIn
   exact decide_eq_decide.2 ⟨fun h => ⟨h0, by omega, h⟩, fun h => h.2.2⟩
  cases hs : subIn (p : Int) f i with
  | false =>
   rw [hs] at hsub
   have hst : subF (p : Int) f (i + 1) = subF p f i := by rw [subF_succ, if_neg (by rw [hs]; decide)]
   simp -dsimp only [go_sem, s0, s1, s5, s6, f1, hpow, hsub, e7]
   exact next (i + 1, c) (by show p - (i + 1) < p - i; omega) ⟨by simp only; omega, hi, hE, by rw [hst]; exact hO, s0, s1, by rw [hst]; exact s5, rfl⟩
  | true =>
   rw [hs] at hsub
   have hst : subF (p : Int) f (i + 1) = subF p f i ++ [(i : Int)] := by rw [subF_succ, if_pos hs]
   have hap := ap_mi (lk := lk) hO hlk hlen (by omega) (i : Int)
   have hO2 := own_mi hE hO (i : Int) [⟨[.int .i64 (i : Int)], 1, false⟩]
   have hst2 : mis (subF (p : Int) f (i + 1)) = mis (subF p f i) ++ [⟨(i : Int)⟩] := by rw [hst, mis_app]; rfl
   have hst3 : (subF (p : Int) f (i + 1)).length = (subF (p : Int) f i).length + 1 := by rw [hst, List.length_append]; rfl
   rw [← hst2] at hO2
   simp -dsimp only [go_sem, s0, s1, s5, s6, f1, hpow, hsub, reps, hap, e7]
   exact next (i + 1, _) (by show p - (i + 1) < p - i; omega) ⟨by simp only; omega, hi, ext_mi hE hO _ _, hO2, s0, s1, by rw [hst3]; rfl, rfl⟩
 ·have hi' : i = p := by omega
  subst hi'
  have f1 := nltI i
  simp -dsimp only [go_sem, s0, s1, s5, s6, f1]
  exact ⟨hE, c, by rw [mis_len]; rfl, hO⟩
def perRL (p f a : Nat) : Nat → List Rat
 | 0 => []
 | i + 1 => pAdd (perRL p f a i) (rootP p ((a * ((subL p f).getD i 0).toNat) % p))
def perR (p f a : Nat) : List Rat := perRL p f a (subL p f).length
theorem perRL_int {p : Nat} (hp : p ∈ P9) (f a : Nat) : ∀ i, IntL i (perRL p f a i)
 | 0 => fun i => by rw [show perRL p f a 0 = [] from rfl, qf_ge (by simp)]; exact .zero
 | i + 1 => (perRL_int hp f a i).add (rootP_int hp (Nat.mod_lt _ (by have := (p9_le hp).1; omega)))
theorem perRL_len {p : Nat} (hp : p ∈ P9) (f a : Nat) : ∀ i, (perRL p f a i).length ≤ p - 1
 | 0 => Nat.zero_le _
 | i + 1 => by
  have h1 := pAdd_le (perRL p f a i) (rootP p ((a * ((subL p f).getD i 0).toNat) % p))
  have h2 := perRL_len hp f a i
  have h3 := (rootP_len (r := (a * ((subL p f).getD i 0).toNat) % p) hp).1
  have h4 : (perRL p f a (i + 1)).length ≤ max (perRL p f a i).length (rootP p ((a * ((subL p f).getD i 0).toNat) % p)).length := h1
  omega
theorem subL_mem {p f : Nat} {x : Int} (h : x ∈ subL p f) : 1 ≤ x ∧ x < p := by
 unfold subL subF at h
 obtain ⟨n, hn, rfl⟩ := List.mem_map.1 h
 have := (List.mem_filter.1 hn).2
 unfold subIn at this
 rw [decide_eq_true_eq] at this
 omega
theorem r48_Period {p f : Nat} (hp : p ∈ P9) (hf2 : f ≤ 9223372036854775807) (a : Int) (H : Heap) : Yields 36 [.int .i64 (p : Int), .int .i64 (f : Int), .int .i64 a] H (fun v H' => LV H' v (perR p f (a % (p : Int)).toNat)) := by
 obtain ⟨hp2, hp23⟩ := p9_le hp
 have m1 := Int.emod_nonneg a (show (p : Int) ≠ 0 by omega)
 have m2 := Int.emod_lt_of_pos a (show 0 < (p : Int) by omega)
 obtain ⟨r, hr⟩ : ∃ r : Nat, (r : Int) = a % (p : Int) := ⟨(a % (p : Int)).toNat, by omega⟩
 have km := fun lk H' => r4_Mod lk H' a (p : Int) (by omega) (by omega)
 rw [← hr] at km ⊢
 rw [Int.toNat_natCast]
 have hrp : r < p := by omega
 refine y_raw (by decide) Tryz.func36 rfl ?_
 intro lk hlk
 simp -dsimp only [go_sem]
 refine ob_y (r48_Subgroup hp hf2 H) hlk ?_
 rintro v1 H1 hE1 ⟨b, rfl, hs⟩
 simp -dsimp only [go_sem]
 have hll : (mis (subL p f)).length = (subL p f).length := mis_len _
 have hsl : (subL p f).length ≤ p := subF_len _ _ _
 rw [hll]
 obtain ⟨n, hn⟩ : ∃ n, n = (subL p f).length := ⟨_, rfl⟩
 unfold perR
 rw [← hn]
 refine r_loop (m := fun (s : Nat × Value) => n - s.1) (I := fun s σ H' => s.1 ≤ n ∧ Ext H H' ∧ Ext H1 H' ∧ LV H' s.2 (perRL p f r s.1) ∧ σ 0 = .int .i64 (p : Int) ∧ σ 2 = .int .i64 a ∧ σ 8 = .slice b n n ∧ σ 7 = s.2 ∧ σ 9 = .int .i64 (s.1 : Int)) (0, .slice none 0 0) ⟨Nat.zero_le _, hE1, Ext.refl _, LV.nil, rfl, rfl, rfl, rfl, rfl⟩ ?_
 rintro ⟨i, vo⟩ σ H' ⟨g1, hE, hE', hO, s0, s2, s8, s7, s9⟩
 simp only at g1 hO s7 s9
 have hlo := hE.le
 by_cases hi : i < n
 ·have f1 := ltI hi
  have e7 := inc64 hi (by omega)
  have hi2 : i < (mis (subL p f)).length := by rw [hll]; omega
  obtain ⟨bb, o, B, rfl, hB, hz, hg⟩ := hs.sl.mi i hi2
  have hB' := hE'.live hB
  have hv : (mis (subL p f))[i].v = (subL p f).getD i 0 := by simp [mis, List.getD_eq_getElem?_getD, show i < (subL p f).length by omega]
  have hmem : (subL p f).getD i 0 ∈ subL p f := by
   rw [List.getD_eq_getElem?_getD, List.getElem?_eq_getElem (by omega)]; exact List.getElem_mem _
  obtain ⟨b1, b2⟩ := subL_mem hmem
  rw [hv] at hg
  generalize hx : (subL p f).getD i 0 = x at hg b1 b2
  obtain ⟨y, rfl⟩ : ∃ y : Nat, x = (y : Int) := ⟨x.toNat, by omega⟩
  have hyp : y < p := by omega
  have hry : r * y ≤ 23 * 23 := Nat.mul_le_mul (by omega) (by omega)
  have e8 : IntKind.i64.wrap ((r : Int) * (y : Int)) = ((r * y : Nat) : Int) := by rw [← Int.natCast_mul, w64 (by omega) (by omega)]
  simp -dsimp only [go_sem, s0, s2, s8, s7, s9, f1, km, hB', hz, hi, hg, e8]
  refine ob_y (r47_Root hp ((r * y : Nat) : Int) H') (Nat.le_refl _) ?_
  rintro v3 H3 hE3 hv3
  have em : ((((r * y : Nat) : Int)) % (p : Int)).toNat = (r * y) % p := by rw [← Int.natCast_emod]; rfl
  rw [em] at hv3
  have hmp : (r * y) % p < p := Nat.mod_lt _ (by omega)
  have l3 := hE3.le
  have hpl := perRL_len hp f r i
  have hrl := (rootP_len (r := (r * y) % p) hp).1
  simp -dsimp only [go_sem, s0, s2, s8, s7, s9]
  refine ob_y (r6_Add (hO.ext hE3) hv3.lv ((perRL_int hp f r i).szL (lt_BB (k := 10) (by omega) (by decide))) ((rootP_int hp hmp).szL (lt_BB (k := 1) (by decide) (by decide))) (by omega) (by omega)) (Nat.le_refl _) ?_
  rintro v4 H4 hE4 hO4
  simp -dsimp only [go_sem, s0, s2, s8, s7, s9, e7]
  have hst : pAdd (perRL p f r i) (rootP p ((r * y) % p)) = perRL p f r (i + 1) := by rw [perRL, hx]; rfl
  rw [hst] at hO4
  exact next (i + 1, v4) (by show n - (i + 1) < n - i; omega) ⟨hi, hE.trans (hE3.trans hE4), hE'.trans (hE3.trans hE4), hO4.lv, s0, s2, s8, rfl, rfl⟩
 ·have hi' : i = n := by omega
  subst hi'
  have f1 := nltI i
  simp -dsimp only [go_sem, s0, s2, s8, s7, s9, f1]
  exact ⟨hE, hO⟩
end Gx
end
section
/- Polynomials up to multiples of 1 + x + .. + x^(p-1); what an automorphism does. -/
set_option autoImplicit false
namespace Gx
open A
def Cg (p : Nat) (F G : Nat → Rat) : Prop := ∃ m q, Below m q ∧ ∀ k, F k = conv q (qf (phiP p)) k + G k
theorem Cg.of {p : Nat} {F G : Nat → Rat} (h : ∀ k, F k = G k) : Cg p F G := ⟨0, fun _ => 0, fun _ _ => rfl, fun k => by rw [conv_nil, h]; exact (Rat.zero_add _).symm⟩
theorem Cg.trans {p : Nat} {F G K : Nat → Rat} (h1 : Cg p F G) (h2 : Cg p G K) : Cg p F K := by
 obtain ⟨m, q, hq, e⟩ := h1
 obtain ⟨n, r, hr, e2⟩ := h2
 refine ⟨max m n, fun i => q i + r i, fun i hi => ?_, fun k => ?_⟩
 ·simp only []
  rw [hq i (by omega), hr i (by omega)]; exact Rat.add_zero _
 ·rw [conv_add, e, e2]; grind
theorem Cg.symm {p : Nat} {F G : Nat → Rat} (h : Cg p F G) : Cg p G F := by
 obtain ⟨m, q, hq, e⟩ := h
 refine ⟨m, fun i => (-1) * q i, fun i hi => ?_, fun k => ?_⟩
 ·simp only []
  rw [hq i hi]; exact Rat.mul_zero _
 ·rw [conv_mul, e]; grind
theorem Cg.add {p : Nat} {F G F' G' : Nat → Rat} (h1 : Cg p F G) (h2 : Cg p F' G') : Cg p (fun k => F k + F' k) (fun k => G k + G' k) := by
 obtain ⟨m, q, hq, e⟩ := h1
 obtain ⟨n, r, hr, e2⟩ := h2
 refine ⟨max m n, fun i => q i + r i, fun i hi => ?_, fun k => ?_⟩
 ·simp only []
  rw [hq i (by omega), hr i (by omega)]; exact Rat.add_zero _
 ·simp only []
  rw [conv_add, e, e2]; grind
theorem Cg.conv {p m : Nat} {F G h : Nat → Rat} (h1 : Cg p F G) (hh : Below m h) : Cg p (A.conv F h) (A.conv G h) := by
 obtain ⟨n, q, hq, e⟩ := h1
 refine ⟨n + m - 1, A.conv q h, Below.conv hq hh, fun k => ?_⟩
 rw [conv_congr (a := F) (b := h) (c := fun i => A.conv q (qf (phiP p)) i + G i) (d := h) (fun i _ => e i) (fun _ _ => rfl), conv_add, conv_assoc, conv_assoc]
 congr 1
 exact conv_congr (fun _ _ => rfl) (fun i _ => conv_comm _ _ i)
theorem phi_get (p k : Nat) : qf (phiP p) k = if k < p then 1 else 0 := by
 split
 ·rename_i h; exact phiP_get p k h
 ·rename_i h; exact qf_ge (by rw [phiP_len]; omega)
theorem Cg.wrap {p m : Nat} (hp : 0 < p) {G : Nat → Rat} (hG : Below m G) : Cg p (fun k => if p ≤ k then G (k - p) else 0) G := by
 have key : Cg p (fun k => if k = p then 1 else 0) (fun k => if k = 0 then 1 else 0) := by
  refine ⟨2, fun i => (if i = 1 then 1 else 0) - (if i = 0 then 1 else 0), fun i hi => ?_, fun k => ?_⟩
  ·simp only []
   rw [if_neg (by omega), if_neg (by omega)]; decide +kernel
  ·rw [conv_sub, conv_shift, conv_shift, phi_get, phi_get]
   dsimp only
   by_cases h0 : k = 0
   ·subst h0
    rw [if_neg (by omega : ¬ 0 = p), if_neg (by omega), if_pos (Nat.zero_le _), if_pos (by omega), if_pos rfl]; decide +kernel
   ·by_cases h1 : k = p
    ·rw [if_pos h1, if_pos (by omega), if_pos (Nat.zero_le _), if_pos (by omega), if_neg (by omega), if_neg h0]; decide +kernel
    ·by_cases h2 : k < p
     ·rw [if_neg h1, if_pos (by omega), if_pos (Nat.zero_le _), if_pos (by omega), if_pos (by omega), if_neg h0]; decide +kernel
     ·rw [if_neg h1, if_pos (by omega), if_pos (Nat.zero_le _), if_neg (by omega), if_neg (by omega), if_neg h0]; decide +kernel
 have h2 := key.conv hG
 refine (Cg.of fun k => ?_).trans (h2.trans (Cg.of fun k => ?_))
 ·rw [conv_shift]
  split
  ·exact (Rat.one_mul _).symm
  ·rfl
 ·exact conv_one G k
end Gx
end
section
/- Few: polynomials with few and small numbers. -/
set_option autoImplicit false
namespace Gx
open Go Go.Proofs
set_option maxRecDepth 10000
def few8 (q : Rat) : Bool := decide ((bytes q.num.natAbs).length ≤ 8) && decide ((bytes q.den).length ≤ 8)
theorem few8_sm {q : Rat} (h : few8 q = true) : Sm 8 q := by
 unfold few8 at h
 rw [Bool.and_eq_true, decide_eq_true_iff, decide_eq_true_iff] at h
 exact ⟨h.1, h.2⟩
def fewQ (f : List Rat) (n : Nat) : Bool := decide (f.length ≤ n + 1) && f.all few8
theorem r6_Few {H : Heap} {v : Value} {f : List Rat} {n : Nat} (hv : LV H v f) (nf : Nrm f) (hl : f.length ≤ 65) (hs : ∀ x ∈ f, Sm 1024 x) (hn : n ≤ 1000) (lk : Nat) :
  gcall Tryz.prog md lk 23 [v, .int .i64 (n : Int)] H = some (.bool (fewQ f n), H) := by
 have kc := fun lk => r6_Check hv.unrq lk
 rw [ckP_map nf hl hs] at kc
 obtain ⟨a, rfl, hsl⟩ := hv
 refine gcall_val rfl Tryz.func23 rfl rfl ?_
 have w1 : IntKind.i64.wrap ((n : Int) + 1) = ((n + 1 : Nat) : Int) := by rw [w64 (by omega) (by omega)]; omega
 by_cases h1 : f.length ≤ n + 1
 ·have f1 : (((n + 1 : Nat) : Int) < (f.length : Int)) = False := eq_false (by omega)
  have f1' : ((f.length : Int) > ((n + 1 : Nat) : Int)) = False := eq_false (by omega)
  have e : fewQ f n = f.all few8 := by unfold fewQ; rw [decide_eq_true h1, Bool.true_and]
  rw [e]
  simp -dsimp only [go_sem, w1, f1, f1', kc]
  refine r_loop (m := fun (i : Nat) => f.length - i) (I := fun i σ H' => i ≤ f.length ∧ Ext H H' ∧ (f.take i).all few8 = true ∧ σ 17 = .slice a f.length f.length ∧ σ 18 = .int .i64 (f.length : Int) ∧ σ 19 = .int .i64 (i : Int)) 0 ⟨Nat.zero_le _, Ext.refl _, rfl, rfl, rfl, rfl⟩ ?_
  rintro i σ H' ⟨h2, hE, h3, s17, s18, s19⟩
  have hlo := hE.le
  by_cases hi : i < f.length
  ·have f2 := ltI hi
   have e7 := inc64 hi (by omega)
   obtain ⟨p, x1, x2⟩ := hsl.ix i hi te_Poly
   replace x2 := x2 H' hE
   obtain ⟨H2, hH2⟩ : ∃ H2, H2 = H' ++ [⟨rC f[i], 3, false⟩] := ⟨_, rfl⟩
   have hE2 : Ext H' H2 := by rw [hH2]; exact Ext.app _ _
   have hb : ilive H2 H'.length = some ⟨rC f[i], 3, false⟩ := by rw [hH2]; exact ilive_new _ _
   have hl2 := hE2.le
   simp -dsimp only [go_sem, s17, s18, s19, f2, x1, x2]
   refine ⟨by omega, ?_⟩
   rw [← hH2]
   by_cases hf : few8 f[i] = true
   ·have hf' := hf
    unfold few8 at hf'
    rw [Bool.and_eq_true, decide_eq_true_iff, decide_eq_true_iff] at hf'
    have g1 : ((8 : Int) < ((bytes (f[i].num.natAbs)).length : Int)) = False := eq_false (by omega)
    have g2 : ((8 : Int) < ((bytes (f[i].den)).length : Int)) = False := eq_false (by omega)
    have g1' : (((bytes (f[i].num.natAbs)).length : Int) > 8) = False := eq_false (by omega)
    have g2' : (((bytes (f[i].den)).length : Int) > 8) = False := eq_false (by omega)
    simp -dsimp only [go_sem, hb, g1, g2, g1', g2', s17, s18, s19, e7]
    refine next (i + 1) (by show f.length - (i + 1) < f.length - i; omega) ⟨hi, hE.trans hE2, ?_, s17, s18, rfl⟩
    rw [List.take_add_one, List.getElem?_eq_getElem hi, Option.toList_some, List.all_append, h3]
    simp [hf]
   ·have hall : f.all few8 = false := by
     rw [List.all_eq_false]
     exact ⟨f[i], List.getElem_mem hi, hf⟩
    rw [hall]
    have hf' := hf
    unfold few8 at hf'
    rw [Bool.and_eq_true, decide_eq_true_iff, decide_eq_true_iff] at hf'
    by_cases g : (bytes (f[i].num.natAbs)).length ≤ 8
    ·have g1 : ((8 : Int) < ((bytes (f[i].num.natAbs)).length : Int)) = False := eq_false (by omega)
     have g2 : ((8 : Int) < ((bytes (f[i].den)).length : Int)) = True := eq_true (by omega)
     have g1' : (((bytes (f[i].num.natAbs)).length : Int) > 8) = False := eq_false (by omega)
     have g2' : (((bytes (f[i].den)).length : Int) > 8) = True := eq_true (by omega)
     simp -dsimp only [go_sem, hb, g1, g2, g1', g2', s17, s18, s19, e7]
    ·have g1 : ((8 : Int) < ((bytes (f[i].num.natAbs)).length : Int)) = True := eq_true (by omega)
     have g1' : (((bytes (f[i].num.natAbs)).length : Int) > 8) = True := eq_true (by omega)
     simp -dsimp only [go_sem, hb, g1, g1', s17, s18, s19, e7]
  ·have hi' : i = f.length := by omega
   subst hi'
   rw [List.take_length] at h3
   rw [h3]
   have f2 := nltI f.length
   simp -dsimp only [go_sem, s17, s18, s19, f2]
 ·have f1 : (((n + 1 : Nat) : Int) < (f.length : Int)) = True := eq_true (by omega)
  have f1' : ((f.length : Int) > ((n + 1 : Nat) : Int)) = True := eq_true (by omega)
  have e : fewQ f n = false := by unfold fewQ; rw [decide_eq_false h1, Bool.false_and]
  rw [e]
  simp -dsimp only [go_sem, w1, f1, f1']
end Gx
end
