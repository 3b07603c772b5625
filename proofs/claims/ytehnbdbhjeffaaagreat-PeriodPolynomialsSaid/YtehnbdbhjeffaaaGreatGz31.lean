/- Regions that draw their order: the invariant. -/
import Derived.Test.YtehnbdbhjeffaaaGreatGz30
set_option linter.all false
section
set_option autoImplicit false
namespace Gx
open Go Go.RowKit

theorem trace {P : Program} {call : q0l} {lk : Nat} {ops : Array Oper} : ∀ (l : List Oper) (k : Nat) (σ : Env) (H : Heap) (σ' : Env) (H' : Heap), ops.toList.drop k = l → k + l.length = ops.size → iops P call lk true ops l σ H = some (σ', H') →
  ∃ (S : Nat → Env × Heap) (r : Nat → Value), S k = (σ, H) ∧ S ops.size = (σ', H') ∧ ∀ (i : Nat) (o : Oper), k ≤ i → ops[i]? = some o → q4g P call lk true ops o (S i).1 (S i).2 = some (r i, (S (i + 1)).2) ∧ (S (i + 1)).1 = put (S i).1 o.dst (r i)
 | [], k, σ, H, σ', H', hd, hk, h => by
  simp only [iops, Option.some.injEq, Prod.mk.injEq] at h
  obtain ⟨rfl, rfl⟩ := h
  simp at hk
  refine ⟨fun _ => (σ, H), fun _ => undef, rfl, rfl, fun i o hi ho => ?_⟩
  have := (Array.getElem?_eq_some_iff.1 ho).1
  omega
 | o :: l, k, σ, H, σ', H', hd, hk, h => by
  have hko : ops[k]? = some o := by
   have : (ops.toList.drop k)[0]? = some o := by rw [hd]; rfl
   rw [List.getElem?_drop] at this
   simpa using this
  have hd' : ops.toList.drop (k + 1) = l := by
   have := congrArg List.tail hd
   simpa [List.tail_drop] using this
  simp only [iops] at h
  split at h
  ·rename_i v H1 hs
   obtain ⟨S, r, h1, h2, h3⟩ := trace l (k + 1) _ _ σ' H' hd' (by simp at hk; omega) h
   refine ⟨fun i => if i = k then (σ, H) else S i, fun i => if i = k then v else r i, by simp, ?_, fun i o' hi ho' => ?_⟩
   ·have hne : ops.size ≠ k := by simp at hk; omega
    simp only [if_neg hne]; exact h2
   ·by_cases e : i = k
    ·subst e
     rw [hko] at ho'; injection ho' with ho'; subst ho'
     simp only [if_true, if_neg (show i + 1 ≠ i by omega), h1]
     exact ⟨hs, trivial⟩
    ·simp only [if_neg e, if_neg (show i + 1 ≠ k by omega)]
     exact h3 i o' (by omega) ho'
  ·simp at h

theorem next_loud (ops : Array Oper) : ∀ (d m : Nat), m + d = ops.size → ∃ e, m ≤ e ∧ e ≤ ops.size ∧ (∀ (i : Nat) (o : Oper), ops[i]? = some o → m ≤ i → i < e → loud ops o.op = false) ∧ (e < ops.size → ∃ o, ops[e]? = some o ∧ loud ops o.op = true)
 | 0, m, h => ⟨m, Nat.le_refl _, by omega, fun i o _ h1 h2 => by omega, fun h' => by omega⟩
 | d + 1, m, h => by
  have hm : ops[m]? = some ops[m] := by rw [Array.getElem?_eq_getElem (by omega)]
  by_cases hl : loud ops ops[m].op = true
  ·exact ⟨m, Nat.le_refl _, by omega, fun i o _ h1 h2 => by omega, fun _ => ⟨_, hm, hl⟩⟩
  ·obtain ⟨e, h1, h2, h3, h4⟩ := next_loud ops d (m + 1) (by omega)
   refine ⟨e, by omega, h2, fun i o ho a b => ?_, h4⟩
   by_cases e' : i = m
   ·subst e'; rw [hm] at ho; injection ho with ho; subst ho; simpa using hl
   ·exact h3 i o ho (by omega) b

structure Inv (base lk : Nat) (ops : Array Oper) (σ0 : Env) (H0 : Heap) (hp : Nat → Heap) (r : Nat → Value) (μ0 : Inj) (a0 : Act) (w0 : World) (D : Nat → Bool) (a : Act) (w : World) (μ : Inj) (s e : Nat) : Prop where
 se : s ≤ e
 en : e ≤ ops.size
 closed : Closed ops D
 lt : ∀ i, D i = true → i < ops.size
 quiet : ∀ (i : Nat) (o : Oper), ops[i]? = some o → s ≤ i → i < e → loud ops o.op = false
 at_ : e < ops.size → ∃ o, ops[e]? = some o ∧ loud ops o.op = true
 mem : ∀ (i : Nat) (o : Oper), ops[i]? = some o → q2k o.op = false → (i < s → D i = true) ∧ (e ≤ i → D i = false)
 heap : ∀ i, s ≤ i → i ≤ e → HR base lk (cut μ (hp i).length) (hp i) w
 top : ∀ b, (hp e).length ≤ b → μ b = none
 gap : ∀ i, s ≤ i → i < e → D i = false → ∀ b, (hp i).length ≤ b → b < (hp (i + 1)).length → μ b = none
 done : ∀ (k : Nat) (o : Oper) (t : Nat), ops[k]? = some o → D k = true → o.dst = some t → VR (cut μ (hp (k + 1)).length) (r k) (a.tmps.getD t undef)
 rest : ∀ t, (∀ (k : Nat) (o : Oper), ops[k]? = some o → D k = true → o.dst ≠ some t) → VR (cut μ H0.length) (σ0 t) (a.tmps.getD t undef)
 size : a.tmps.size = a0.tmps.size
 defers : a.defers = a0.defers
 below : Below base w0 w
 le : Le H0.length μ0 μ

section
variable {P : Program} {base lk : Nat} {ops : Array Oper} {σ0 : Env} {H0 : Heap} {en : Nat → Env} {hp : Nat → Heap} {r : Nat → Value} {μ0 : Inj} {a0 : Act} {w0 : World} {call : q0l}

structure Tr (P : Program) (call : q0l) (lk : Nat) (ops : Array Oper) (σ0 : Env) (H0 : Heap) (en : Nat → Env) (hp : Nat → Heap) (r : Nat → Value) : Prop where
 e0 : en 0 = σ0
 h0 : hp 0 = H0
 step : ∀ (i : Nat) (o : Oper), ops[i]? = some o → q4g P call lk true ops o (en i) (hp i) = some (r i, hp (i + 1))
 env : ∀ (i : Nat) (o : Oper), ops[i]? = some o → en (i + 1) = put (en i) o.dst (r i)

theorem Tr.stab (T : Tr P call lk ops σ0 H0 en hp r) (hc : q1a call) {i : Nat} {o : Oper} (ho : ops[i]? = some o) : (hp i).length ≤ (hp (i + 1)).length ∧ (loud ops o.op = false → ∀ b : Nat, b < (hp i).length → (hp (i + 1))[b]? = (hp i)[b]?) := by
 have hs := T.step i o ho
 unfold q4g at hs
 split at hs
 ·simp at hs
 ·simp only [Option.some.injEq, Prod.mk.injEq] at hs
  obtain ⟨_, hs⟩ := hs
  rw [← hs]
  exact ⟨Nat.le_refl _, fun _ _ _ => rfl⟩
 ·obtain ⟨_, h0, _⟩ := q8e hs
  have := iop_stab hc h0
  refine ⟨this.1, fun hl b hb => ?_⟩
  rw [hl] at this
  simp only [Bool.not_false, Bool.and_self, if_true] at this
  exact this.2 b hb hb

theorem Tr.len (T : Tr P call lk ops σ0 H0 en hp r) (hc : q1a call) : ∀ (d i : Nat), i + d ≤ ops.size → (hp i).length ≤ (hp (i + d)).length
 | 0, _, _ => Nat.le_refl _
 | d + 1, i, h => by
  have h1 := T.len hc d i (by omega)
  have h2 := (T.stab hc (i := i + d) (o := ops[i + d]) (by rw [Array.getElem?_eq_getElem (by omega)])).1
  exact Nat.le_trans h1 h2

theorem Tr.len' (T : Tr P call lk ops σ0 H0 en hp r) (hc : q1a call) {i j : Nat} (h : i ≤ j) (hj : j ≤ ops.size) : (hp i).length ≤ (hp j).length := by
 have := T.len hc (j - i) i (by omega)
 rwa [show i + (j - i) = j by omega] at this

theorem Tr.same (T : Tr P call lk ops σ0 H0 en hp r) (hc : q1a call) {s e : Nat} (he : e ≤ ops.size) (hq : ∀ (i : Nat) (o : Oper), ops[i]? = some o → s ≤ i → i < e → loud ops o.op = false) : ∀ (d i : Nat), s ≤ i → i + d ≤ e → ∀ b : Nat, b < (hp i).length → (hp (i + d))[b]? = (hp i)[b]?
 | 0, _, _, _ => fun _ _ => rfl
 | d + 1, i, h1, h2 => fun b hb => by
  have ho : ops[i + d]? = some ops[i + d] := by rw [Array.getElem?_eq_getElem (by omega)]
  have := (T.stab hc ho).2 (hq (i + d) _ ho (by omega) (by omega)) b (Nat.lt_of_lt_of_le hb (T.len hc d i (by omega)))
  rw [show i + (d + 1) = i + d + 1 by omega, this]
  exact T.same hc he hq d i h1 (by omega) b hb

theorem Tr.same' (T : Tr P call lk ops σ0 H0 en hp r) (hc : q1a call) {s e i j : Nat} (he : e ≤ ops.size) (hq : ∀ (i : Nat) (o : Oper), ops[i]? = some o → s ≤ i → i < e → loud ops o.op = false) (h1 : s ≤ i) (h2 : i ≤ j) (h3 : j ≤ e) (b : Nat) (hb : b < (hp i).length) : (hp j)[b]? = (hp i)[b]? := by
 have := T.same hc he hq (j - i) i h1 (by omega) b hb
 rwa [show i + (j - i) = j by omega] at this

theorem Tr.val (T : Tr P call lk ops σ0 H0 en hp r) : ∀ (i : Nat), i ≤ ops.size → ∀ t, (∃ k o, k < i ∧ ops[k]? = some o ∧ o.dst = some t ∧ en i t = r k) ∨ ((∀ (k : Nat) (o : Oper), k < i → ops[k]? = some o → o.dst ≠ some t) ∧ en i t = σ0 t)
 | 0, _, t => .inr ⟨fun k o h => by omega, by rw [T.e0]⟩
 | i + 1, hi, t => by
  have ho : ops[i]? = some ops[i] := by rw [Array.getElem?_eq_getElem (by omega)]
  have he := T.env i _ ho
  cases hd : ops[i].dst with
  | none =>
   rw [hd] at he
   simp only [put] at he
   rcases T.val i (by omega) t with ⟨k, o, h1, h2, h3, h4⟩ | ⟨h1, h2⟩
   ·exact .inl ⟨k, o, by omega, h2, h3, by rw [he]; exact h4⟩
   ·refine .inr ⟨fun k o hk hko => ?_, by rw [he]; exact h2⟩
    by_cases e : k = i
    ·subst e; rw [ho] at hko; injection hko with hko; subst hko; rw [hd]; simp
    ·exact h1 k o (by omega) hko
  | some d =>
   rw [hd] at he
   simp only [put] at he
   by_cases e : t = d
   ·subst e
    exact .inl ⟨i, _, by omega, ho, hd, by rw [he]; simp [upd]⟩
   ·have hv : en (i + 1) t = en i t := by rw [he]; simp [upd, e]
    rcases T.val i (by omega) t with ⟨k, o, h1, h2, h3, h4⟩ | ⟨h1, h2⟩
    ·exact .inl ⟨k, o, by omega, h2, h3, by rw [hv]; exact h4⟩
    ·refine .inr ⟨fun k o hk hko => ?_, by rw [hv]; exact h2⟩
     by_cases e' : k = i
     ·subst e'; rw [ho] at hko; injection hko with hko; subst hko; rw [hd]; simp; exact fun h => e h.symm
     ·exact h1 k o (by omega) hko

theorem cut_mono {μ : Inj} {n m : Nat} (h : n ≤ m) {v v' : Value} (hv : VR (cut μ n) v v') : VR (cut μ m) v v' := hv.mono (cut_le h fun _ _ _ h => h)

theorem Inv.reads {D : Nat → Bool} {a : Act} {w : World} {μ : Inj} {s e : Nat} (J : Inv base lk ops σ0 H0 hp r μ0 a0 w0 D a w μ s e) (T : Tr P call lk ops σ0 H0 en hp r) (hc : q1a call) (hd : DrawOk ops) {i : Nat} {o : Oper} (ho : ops[i]? = some o)
  (hi : D i = false) (hr : ∀ e ∈ o.after.toList, Region.binds .any e = true → D e.on = true) {t : Nat} (ht : t ∈ w2s ops o) : VR (cut μ (hp i).length) (en i t) (a.tmps.getD t undef) := by
 have hin := (Array.getElem?_eq_some_iff.1 ho).1
 rcases T.val i (by omega) t with ⟨k, q, h1, h2, h3, h4⟩ | ⟨h1, h2⟩
 ·have hc' := hd.read i k o q t ho h2 h3 ht
  have := (cmp_run hd J.closed ho h2 hi hr hc').1 h1
  rw [h4]
  exact cut_mono (T.len' hc h1 (by omega)) (J.done k q t h2 this h3)
 ·rw [h2]
  refine cut_mono (by rw [← T.h0]; exact T.len' hc (Nat.zero_le _) (by omega)) (J.rest t fun k q hq hk hkt => ?_)
  have hc' := hd.read i k o q t ho hq hkt ht
  have hcr := cmp_run hd J.closed ho hq hi hr hc'
  rcases Nat.lt_trichotomy k i with hlt | heq | hgt
  ·exact h1 k q hlt hq hkt
  ·exact hcr.2.2 heq.symm
  ·rw [hcr.2.1 hgt] at hk; simp at hk


def plus (D : Nat → Bool) (i : Nat) : Nat → Bool := fun k => k == i || D k
theorem q8a (D : Nat → Bool) (i : Nat) : plus D i i = true := by simp [plus]
theorem q5c (D : Nat → Bool) {i k : Nat} (h : k ≠ i) : plus D i k = D k := by simp [plus, h]
theorem q8w {D : Nat → Bool} {i k : Nat} (h : D k = true) : plus D i k = true := by simp [plus, h]

theorem Closed.plus {D : Nat → Bool} (h : Closed ops D) {i : Nat} {o : Oper} (ho : ops[i]? = some o) (hr : ∀ e ∈ o.after.toList, Region.binds .any e = true → D e.on = true) : Closed ops (plus D i) := by
 intro k q hq hk e he hb
 by_cases hki : k = i
 ·subst hki
  rw [ho] at hq; injection hq with hq; subst hq
  exact q8w (hr e he hb)
 ·rw [q5c D hki] at hk
  exact q8w (h k q hq hk e he hb)

theorem getD_put {a : Act} {d : Option Nat} {v : Value} {t : Nat} (hd : ∀ k, d = some k → k < a.tmps.size) : (d = some t → (a.put d v).tmps.getD t undef = v) ∧ (d ≠ some t → (a.put d v).tmps.getD t undef = a.tmps.getD t undef) := by
 cases d with
 | none => exact ⟨fun h => by simp at h, fun _ => rfl⟩
 | some k =>
  have hk := hd k rfl
  show (_ → (a.tmps.setIfInBounds k v).getD t undef = v) ∧ (_ → (a.tmps.setIfInBounds k v).getD t undef = _)
  rw [Array.getD_eq_getD_getElem?, Array.getElem?_setIfInBounds]
  constructor
  ·intro h
   injection h with h; subst h
   rw [if_pos rfl, if_pos hk]; rfl
  ·intro h
   rw [if_neg (fun e => h (by rw [e])), ← Array.getD_eq_getD_getElem?]

theorem Inv.tmps {D : Nat → Bool} {a : Act} {w : World} {μ μ2 : Inj} {s e : Nat} (J : Inv base lk ops σ0 H0 hp r μ0 a0 w0 D a w μ s e) (T : Tr P call lk ops σ0 H0 en hp r) (hc : q1a call) (hd : DrawOk ops) {i : Nat} {o : Oper} (ho : ops[i]? = some o) {v' : Value}
  (hl : ∀ b x, μ b = some x → μ2 b = some x) (hv : VR (cut μ2 (hp (i + 1)).length) (r i) v') (hds : ∀ k, o.dst = some k → k < a.tmps.size) :
  (∀ (k : Nat) (q : Oper) (t : Nat), ops[k]? = some q → plus D i k = true → q.dst = some t → VR (cut μ2 (hp (k + 1)).length) (r k) ((a.put o.dst v').tmps.getD t undef)) ∧
  (∀ t, (∀ (k : Nat) (q : Oper), ops[k]? = some q → plus D i k = true → q.dst ≠ some t) → VR (cut μ2 H0.length) (σ0 t) ((a.put o.dst v').tmps.getD t undef)) := by
 constructor
 ·intro k q t hq hk hqt
  by_cases hki : k = i
  ·subst hki
   rw [ho] at hq; injection hq with hq; subst hq
   rw [(getD_put hds).1 hqt]; exact hv
  ·rw [q5c D hki] at hk
   have hne : o.dst ≠ some t := hd.dst i k o q t (Ne.symm hki) ho hq hqt
   rw [(getD_put hds).2 hne]
   exact (J.done k q t hq hk hqt).mono (cut_le (Nat.le_refl _) fun b x _ h => hl b x h)
 ·intro t ht
  have hne : o.dst ≠ some t := ht i o ho (q8a D i)
  rw [(getD_put hds).2 hne]
  exact (J.rest t fun k q hq hk => ht k q hq (q8w hk)).mono (cut_le (Nat.le_refl _) fun b x _ h => hl b x h)

theorem Inv.still {D : Nat → Bool} {a : Act} {w : World} {μ : Inj} {s e : Nat} (J : Inv base lk ops σ0 H0 hp r μ0 a0 w0 D a w μ s e) (T : Tr P call lk ops σ0 H0 en hp r) (hc : q1a call) (hd : DrawOk ops) {i : Nat} {o : Oper} (ho : ops[i]? = some o)
  (hr : ∀ e ∈ o.after.toList, Region.binds .any e = true → D e.on = true) {v' : Value} (hv : VR (cut μ (hp (i + 1)).length) (r i) v') (hds : ∀ k, o.dst = some k → k < a.tmps.size)
  (hm : q2k o.op = false → s ≤ i ∧ i < e) (hh : s ≤ i → i < e → hp (i + 1) = hp i) : Inv base lk ops σ0 H0 hp r μ0 a0 w0 (plus D i) (a.put o.dst v') w μ s e := by
 obtain ⟨t1, t2⟩ := J.tmps T hc hd ho (fun _ _ h => h) hv hds
 have hin := (Array.getElem?_eq_some_iff.1 ho).1
 refine ⟨J.se, J.en, J.closed.plus ho hr, fun k hk => ?_, J.quiet, J.at_, fun k q hq hpq => ⟨fun h => q8w ((J.mem k q hq hpq).1 h), fun h => ?_⟩, J.heap, J.top, fun k h1 h2 hk b h3 h4 => ?_, t1, t2, by rw [q6a]; exact J.size, by rw [q6q]; exact J.defers, J.below, J.le⟩
 ·by_cases e' : k = i
  ·omega
  ·rw [q5c D e'] at hk; exact J.lt k hk
 ·by_cases e' : k = i
  ·subst e'
   rw [ho] at hq; injection hq with hq; subst hq
   have := hm hpq; omega
  ·rw [q5c D e']; exact (J.mem k q hq hpq).2 h
 ·by_cases e' : k = i
  ·subst e'; rw [q8a] at hk; simp at hk
  ·rw [q5c D e'] at hk; exact J.gap k h1 h2 hk b h3 h4

theorem Inv.made {D : Nat → Bool} {a : Act} {w w' : World} {μ μ1 : Inj} {s e : Nat} (J : Inv base lk ops σ0 H0 hp r μ0 a0 w0 D a w μ s e) (T : Tr P call lk ops σ0 H0 en hp r) (hc : q1a call) (hd : DrawOk ops) {i : Nat} {o : Oper} (ho : ops[i]? = some o)
  (hi : D i = false) (hr : ∀ e ∈ o.after.toList, Region.binds .any e = true → D e.on = true) {v' : Value} (hds : ∀ k, o.dst = some k → k < a.tmps.size) (h1 : s ≤ i) (h2 : i < e)
  (hle : Le (hp i).length (cut μ (hp i).length) μ1) (hR : HR w.heap.size (hp i).length μ1 (hp (i + 1)) w') (hb : Below w.heap.size w w') (hv : VR μ1 (r i) v') :
  ∃ μ2, Inv base lk ops σ0 H0 hp r μ0 a0 w0 (plus D i) (a.put o.dst v') w' μ2 s e := by
 have hin := (Array.getElem?_eq_some_iff.1 ho).1
 have hnone : ∀ b, (hp i).length ≤ b → b < (hp (i + 1)).length → μ b = none := J.gap i h1 h2 hi
 have hold : ∀ b, b < (hp i).length → μ1 b = μ b := fun b hb' => by
  rw [hle.2 b hb']; simp [cut, hb']
 refine ⟨fun b => if (hp i).length ≤ b ∧ b < (hp (i + 1)).length then μ1 b else μ b, ?_⟩
 have hl : ∀ b x, μ b = some x → (if (hp i).length ≤ b ∧ b < (hp (i + 1)).length then μ1 b else μ b) = some x := by
  intro b x hbx
  rw [if_neg]; exact hbx
  rintro ⟨h3, h4⟩
  rw [hnone b h3 h4] at hbx; simp at hbx
 have hcut1 : Le 0 μ1 (cut (fun b => if (hp i).length ≤ b ∧ b < (hp (i + 1)).length then μ1 b else μ b) (hp (i + 1)).length) := by
  refine ⟨fun b x hbx => ?_, fun b hb => by omega⟩
  have hlt := hR.dom b x hbx
  unfold cut
  rw [if_pos hlt]
  by_cases h3 : (hp i).length ≤ b
  ·(try dsimp only); rw [if_pos ⟨h3, hlt⟩]; exact hbx
  ·(try dsimp only); rw [if_neg (by omega), ← hold b (by omega)]; exact hbx
 obtain ⟨t1, t2⟩ := J.tmps T hc hd ho hl (hv.mono hcut1) hds
 have hlen := (T.stab hc ho).1
 refine ⟨J.se, J.en, J.closed.plus ho hr, fun k hk => ?_, J.quiet, J.at_, fun k q hq hpq => ⟨fun h => q8w ((J.mem k q hq hpq).1 h), fun h => ?_⟩, ?_, ?_, ?_, t1, t2, by rw [q6a]; exact J.size, by rw [q6q]; exact J.defers, J.below.trans (hb.mono (J.heap s (Nat.le_refl _) J.se).base), ?_⟩
 ·by_cases e' : k = i
  ·omega
  ·rw [q5c D e'] at hk; exact J.lt k hk
 ·by_cases e' : k = i
  ·omega
  ·rw [q5c D e']; exact (J.mem k q hq hpq).2 h
 ·intro j hj1 hj2
  have hj := J.heap j hj1 hj2
  by_cases hji : j ≤ i
  ·have hjl := T.len' hc hji (by omega)
   have : cut (fun b => if (hp i).length ≤ b ∧ b < (hp (i + 1)).length then μ1 b else μ b) (hp j).length = cut μ (hp j).length := by
    funext b
    unfold cut
    split
    ·(try dsimp only); rw [if_neg (by omega)]
    ·rfl
   rw [this]
   exact hj.below hb
  ·have hjl := T.len' hc (show i + 1 ≤ j by omega) (by have := J.en; omega)
   have hsame := T.same' hc J.en J.quiet (i := i + 1) (j := j) (by omega) (by omega) hj2
   have := hj.join (n := (hp i).length) (m := (hp (i + 1)).length) (H1 := hp (i + 1)) (fun b h3 h4 => by
     unfold cut
     split
     ·exact hnone b h3 h4
     ·rfl) hR hb rfl hjl hsame (fun b hb' x hx => by
     unfold cut
     rw [if_pos (by omega), ← hold b hb']; exact hx) (by
     have := (J.heap i h1 (by omega)).lk
     exact this)
   have heq : cut (fun b => if (hp i).length ≤ b ∧ b < (hp (i + 1)).length then μ1 b else μ b) (hp j).length = fun b => if (hp i).length ≤ b ∧ b < (hp (i + 1)).length then μ1 b else cut μ (hp j).length b := by
    funext b
    unfold cut
    by_cases h3 : (hp i).length ≤ b ∧ b < (hp (i + 1)).length
    ·dsimp only; rw [if_pos h3, if_pos h3, if_pos (by omega)]
    ·dsimp only; rw [if_neg h3, if_neg h3]
   rw [heq]; exact this
 ·intro b hb'
  have := T.len' hc (show i + 1 ≤ e by omega) J.en
  (try dsimp only); rw [if_neg (by omega)]; exact J.top b hb'
 ·intro k hk1 hk2 hk b h3 h4
  by_cases e' : k = i
  ·subst e'; rw [q8a] at hk; simp at hk
  ·rw [q5c D e'] at hk
   have : ¬ ((hp i).length ≤ b ∧ b < (hp (i + 1)).length) := by
    rcases Nat.lt_or_ge k i with h5 | h5
    ·have := T.len' hc (show k + 1 ≤ i by omega) (by omega); omega
    ·have := T.len' hc (show i + 1 ≤ k by omega) (by have := J.en; omega); omega
   (try dsimp only); rw [if_neg this]
   exact J.gap k hk1 hk2 hk b h3 h4
 ·refine ⟨fun b x hx => hl b x (J.le.1 b x hx), fun b hb' => ?_⟩
  have : H0.length ≤ (hp i).length := by rw [← T.h0]; exact T.len' hc (Nat.zero_le _) (by omega)
  (try dsimp only); rw [if_neg (by omega)]
  exact J.le.2 b hb'

theorem Inv.loud {D : Nat → Bool} {a : Act} {w w' : World} {μ μ1 : Inj} {s e : Nat} (J : Inv base lk ops σ0 H0 hp r μ0 a0 w0 D a w μ s e) (T : Tr P call lk ops σ0 H0 en hp r) (hc : q1a call) (hd : DrawOk ops) {o : Oper} (ho : ops[e]? = some o)
  (hlo : Gx.loud ops o.op = true) (hi : D e = false) (hr : ∀ x ∈ o.after.toList, Region.binds .any x = true → D x.on = true) {v' : Value} (hds : ∀ k, o.dst = some k → k < a.tmps.size)
  (hle : Le (hp e).length μ μ1) (hR : HR base lk μ1 (hp (e + 1)) w') (hb : Below base w w') (hv : VR μ1 (r e) v') :
  ∃ s' e', Inv base lk ops σ0 H0 hp r μ0 a0 w0 (plus D e) (a.put o.dst v') w' μ1 s' e' := by
 have hin := (Array.getElem?_eq_some_iff.1 ho).1
 obtain ⟨e', n1, n2, n3, n4⟩ := next_loud ops (ops.size - (e + 1)) (e + 1) (by omega)
 have hcut : ∀ m, (hp (e + 1)).length ≤ m → cut μ1 m = μ1 := by
  intro m hm
  funext b
  unfold cut
  split
  ·rfl
  ·cases hb' : μ1 b with
   | none => rfl
   | some x => have := hR.dom b x hb'; omega
 obtain ⟨t1, t2⟩ := J.tmps (μ2 := μ1) T hc hd ho hle.1 (by rw [hcut _ (Nat.le_refl _)]; exact hv) hds
 have hnp : q2k o.op = false := by
  cases ho' : o.op <;> rw [ho'] at hlo <;> simp [Gx.loud] at hlo <;> simp [q2k]
 refine ⟨e + 1, e', n1, n2, J.closed.plus ho hr, fun k hk => ?_, n3, fun h => n4 h, fun k q hq hpq => ⟨fun h => ?_, fun h => ?_⟩, ?_, ?_, ?_, t1, t2, by rw [q6a]; exact J.size, by rw [q6q]; exact J.defers, J.below.trans hb, ?_⟩
 ·by_cases e2 : k = e
  ·omega
  ·rw [q5c D e2] at hk; exact J.lt k hk
 ·by_cases e2 : k = e
  ·subst e2; exact q8a D k
  ·have hcmp := hd.loud e k o q (Ne.symm e2) ho hq hlo hpq
   exact q8w ((cmp_run hd J.closed ho hq hi hr hcmp).1 (by omega))
 ·rw [q5c D (by omega)]
  exact (J.mem k q hq hpq).2 (by omega)
 ·intro j hj1 hj2
  have hjl := T.len' hc hj1 (by omega)
  rw [hcut _ hjl]
  exact hR.more hjl (T.same' hc n2 n3 (Nat.le_refl _) hj1 hj2)
 ·intro b hb'
  have hjl := T.len' hc n1 n2
  cases hx : μ1 b with
  | none => rfl
  | some x => have := hR.dom b x hx; omega
 ·intro k hk1 hk2 hk b h3 h4
  have hjl := T.len' hc hk1 (by omega)
  cases hx : μ1 b with
  | none => rfl
  | some x => have := hR.dom b x hx; omega
 ·have : H0.length ≤ (hp e).length := by rw [← T.h0]; exact T.len' hc (Nat.zero_le _) (by omega)
  exact J.le.trans hle this

end
end Gx
end
