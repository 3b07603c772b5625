/- Regions that draw their order: every order comes to what the order of the text comes to. -/
import Derived.Test.YtehnbdbhjeffaaaGreatGz29
import Derived.Orders
set_option linter.all false
section
set_option autoImplicit false
namespace Gx
open Go Go.RowKit

theorem fold_bit (acc : List Nat) (k : Nat) : ∀ (es : List Edge) (s : Nat), (es.foldl (fun s e => if Region.binds .any e then s ||| 2 ^ e.on ||| acc.getD e.on 0 else s) s).testBit k = true →
  s.testBit k = true ∨ ∃ e, e ∈ es ∧ Region.binds .any e = true ∧ (e.on = k ∨ (acc.getD e.on 0).testBit k = true)
 | [], s, h => .inl h
 | e :: es, s, h => by
  rw [List.foldl_cons] at h
  rcases fold_bit acc k es _ h with h | ⟨e', h1, h2, h3⟩
  ·by_cases hb : Region.binds .any e = true
   ·rw [if_pos hb, Nat.testBit_or, Nat.testBit_or, Bool.or_eq_true, Bool.or_eq_true, Nat.testBit_two_pow] at h
    rcases h with (h | h) | h
    ·exact .inl h
    ·exact .inr ⟨e, by simp, hb, .inl (by simpa using h)⟩
    ·exact .inr ⟨e, by simp, hb, .inr h⟩
   ·rw [if_neg hb] at h; exact .inl h
  ·exact .inr ⟨e', by simp [h1], h2, h3⟩

theorem getD_left (a b : List Nat) (i d : Nat) (h : i < a.length) : (a ++ b).getD i d = a.getD i d := by
 rw [List.getD_eq_getElem?_getD, List.getD_eq_getElem?_getD, List.getElem?_append_left h]
theorem getD_right (a b : List Nat) (i d : Nat) (h : a.length ≤ i) : (a ++ b).getD i d = b.getD (i - a.length) d := by
 rw [List.getD_eq_getElem?_getD, List.getD_eq_getElem?_getD, List.getElem?_append_right h]

theorem anc_spec (ops : List Oper) : ∀ (r : List Oper) (acc : List Nat), (∃ pre, ops = pre ++ r ∧ pre.length = acc.length) →
  (∀ (i : Nat) (o : Oper), i < acc.length → ops[i]? = some o → ∀ k, (acc.getD i 0).testBit k = true → ∃ e, e ∈ o.after.toList ∧ Region.binds .any e = true ∧ (e.on = k ∨ (e.on < i ∧ (acc.getD e.on 0).testBit k = true))) →
  (∀ (i : Nat) (o : Oper), ops[i]? = some o → ∀ e ∈ o.after.toList, Region.binds .any e = true → e.on < i) →
  ∀ (i : Nat) (o : Oper), ops[i]? = some o → ∀ k, ((ancL r acc).getD i 0).testBit k = true → ∃ e, e ∈ o.after.toList ∧ Region.binds .any e = true ∧ (e.on = k ∨ (e.on < i ∧ ((ancL r acc).getD e.on 0).testBit k = true))
 | [], acc, ⟨pre, h1, h2⟩, h, hf, i, o, ho, k, hk => by
  simp only [ancL] at hk ⊢
  refine h i o ?_ ho k hk
  have := (List.getElem?_eq_some_iff.1 ho).1
  rw [h1] at this; simp at this; omega
 | q :: r, acc, ⟨pre, h1, h2⟩, h, hf, i, o, ho, k, hk => by
  have hq : ops[acc.length]? = some q := by rw [h1, ← h2]; simp
  simp only [ancL] at hk ⊢
  refine anc_spec ops r _ ⟨pre ++ [q], by simp [h1], by simp [h2]⟩ ?_ hf i o ho k hk
  intro i o hi ho k hk
  by_cases hlt : i < acc.length
  ·rw [getD_left _ _ _ _ hlt] at hk
   obtain ⟨e, e1, e2, e3⟩ := h i o hlt ho k hk
   refine ⟨e, e1, e2, e3.imp id fun ⟨a, b⟩ => ⟨a, ?_⟩⟩
   rw [getD_left _ _ _ _ (by omega)]; exact b
  ·have hi' : i = acc.length := by simp at hi; omega
   subst hi'
   rw [hq] at ho; injection ho with ho; subst ho
   rw [getD_right _ _ _ _ (Nat.le_refl _)] at hk
   simp only [Nat.sub_self, List.getD_cons_zero] at hk
   rcases fold_bit acc k _ _ hk with h0 | ⟨e, e1, e2, e3⟩
   ·simp at h0
   ·have := hf _ q hq e e1 e2
    refine ⟨e, e1, e2, e3.imp id fun a => ⟨this, ?_⟩⟩
    rw [getD_left _ _ _ _ this]; exact a

structure DrawOk (ops : Array Oper) : Prop where
 back : ∀ (i : Nat) (o : Oper), ops[i]? = some o → ∀ e ∈ o.after.toList, Region.binds .any e = true → e.on < i
 loud : ∀ (i j : Nat) (o q : Oper), i ≠ j → ops[i]? = some o → ops[j]? = some q → Gx.loud ops o.op = true → q2k q.op = false → cmpAnc (ancL ops.toList []) i j = true
 dst : ∀ (i j : Nat) (o q : Oper) (d : Nat), i ≠ j → ops[i]? = some o → ops[j]? = some q → q.dst = some d → o.dst ≠ some d
 read : ∀ (i j : Nat) (o q : Oper) (d : Nat), ops[i]? = some o → ops[j]? = some q → q.dst = some d → d ∈ w2s ops o → cmpAnc (ancL ops.toList []) i j = true

theorem drawOk_iff {ops : Array Oper} (h : drawOk ops = true) : DrawOk ops := by
 unfold drawOk at h
 simp only [List.all_eq_true] at h
 have mem : ∀ (i : Nat) (o : Oper), ops[i]? = some o → (o, i) ∈ ops.toList.zipIdx := by
  intro i o ho
  rw [List.mem_zipIdx_iff_getElem?]
  simpa using ho
 constructor
 ·intro i o ho e he hb
  have := h (o, i) (mem i o ho)
  simp only [Bool.and_eq_true, List.all_eq_true] at this
  have := this.1 e he
  simpa [hb] using this
 ·intro i j o q hne ho hq hl hp
  have := h (o, i) (mem i o ho)
  simp only [Bool.and_eq_true, List.all_eq_true] at this
  have := (this.2 (q, j) (mem j q hq)).1
  simpa [hl, hp, hne] using this
 ·intro i j o q d hne ho hq hd
  have := h (o, i) (mem i o ho)
  simp only [Bool.and_eq_true, List.all_eq_true] at this
  have := (this.2 (q, j) (mem j q hq)).2
  rw [hd] at this
  simp only [Bool.and_eq_true] at this
  have := this.1
  simpa [hne] using this
 ·intro i j o q d ho hq hd hn
  have := h (o, i) (mem i o ho)
  simp only [Bool.and_eq_true, List.all_eq_true] at this
  have := (this.2 (q, j) (mem j q hq)).2
  rw [hd] at this
  simp only [Bool.and_eq_true] at this
  have := this.2
  simpa [hn] using this

def Closed (ops : Array Oper) (D : Nat → Bool) : Prop := ∀ (i : Nat) (o : Oper), ops[i]? = some o → D i = true → ∀ e ∈ o.after.toList, Region.binds .any e = true → D e.on = true

theorem anc_run {ops : Array Oper} (hd : DrawOk ops) {D : Nat → Bool} (hD : Closed ops D) : ∀ (i : Nat) (o : Oper), ops[i]? = some o → (∀ e ∈ o.after.toList, Region.binds .any e = true → D e.on = true) →
  ∀ k, ((ancL ops.toList []).getD i 0).testBit k = true → D k = true := by
 have spec := anc_spec ops.toList ops.toList [] ⟨[], rfl, rfl⟩ (by intro i o hi; simp at hi) (fun i o ho => hd.back i o (by simpa using ho))
 intro i
 induction i using Nat.strongRecOn with
 | _ i ih =>
  intro o ho hr k hk
  obtain ⟨e, e1, e2, e3⟩ := spec i o (by simpa using ho) k hk
  rcases e3 with rfl | ⟨hlt, hb⟩
  ·exact hr e e1 e2
  ·have hi : i < ops.size := (Array.getElem?_eq_some_iff.1 ho).1
   have he : ops[e.on]? = some ops[e.on] := by rw [Array.getElem?_eq_getElem (by omega)]
   exact ih e.on hlt ops[e.on] he (hD e.on _ he (hr e e1 e2)) k hb

theorem cmp_run {ops : Array Oper} (hd : DrawOk ops) {D : Nat → Bool} (hD : Closed ops D) {i j : Nat} {o q : Oper} (ho : ops[i]? = some o) (hq : ops[j]? = some q) (hi : D i = false)
  (hr : ∀ e ∈ o.after.toList, Region.binds .any e = true → D e.on = true) (hc : cmpAnc (ancL ops.toList []) i j = true) : (j < i → D j = true) ∧ (i < j → D j = false) ∧ i ≠ j := by
 unfold cmpAnc at hc
 split at hc
 ·rename_i hlt
  refine ⟨fun h => by omega, fun _ => ?_, by omega⟩
  cases hj : D j with
  | false => rfl
  | true =>
   have := anc_run hd hD j q hq (hD j q hq hj) i hc
   rw [hi] at this; simp at this
 ·split at hc
  ·rename_i hlt
   exact ⟨fun _ => anc_run hd hD i o ho hr j hc, fun h => by omega, by omega⟩
  ·simp at hc


def cut (μ : Inj) (n : Nat) : Inj := fun b => if b < n then μ b else none
theorem cut_le {μ μ' : Inj} {n m : Nat} (h : n ≤ m) (hm : ∀ b i, b < n → μ b = some i → μ' b = some i) : Le 0 (cut μ n) (cut μ' m) := by
 refine ⟨fun b i hb => ?_, fun b hb => by omega⟩
 unfold cut at hb ⊢
 split at hb
 ·rename_i hlt
  rw [if_pos (by omega)]; exact hm b i hlt hb
 ·simp at hb

section
variable {P : Program} {w : World} {base lk : Nat} {μ : Inj} {H : Heap}

theorem HR.hold (h : HR base lk μ H w) : HR w.heap.size H.length μ H w :=
 ⟨h.dom, h.lt, h.sz, h.len, h.cell, fun b i B h1 h2 h3 h4 => absurd (h.dom b i h1) (by omega), fun b b' i i' B B' _ h1 _ _ _ _ _ h4 => absurd (h.dom b i h1) (by omega), Nat.le_refl _, Nat.le_refl _⟩

theorem HR.more (h : HR base lk μ H w) {H' : Heap} (hl : H.length ≤ H'.length) (he : ∀ b : Nat, b < H.length → H'[b]? = H[b]?) : HR base lk μ H' w := by
 have e : ∀ b i, μ b = some i → H'[b]? = H[b]? := fun b i hb => he b (h.dom b i hb)
 exact ⟨fun b i hb => Nat.lt_of_lt_of_le (h.dom b i hb) hl, h.lt, fun b i B h1 h2 => h.sz b i B h1 (by rw [← e b i h1]; exact h2), fun b i B h1 h2 => h.len b i B h1 (by rw [← e b i h1]; exact h2), fun b i B h1 h2 => h.cell b i B h1 (by rw [← e b i h1]; exact h2),
  fun b i B h1 h2 => h.own b i B h1 (by rw [← e b i h1]; exact h2), fun b b' i i' B B' hne h1 h1' h2 h2' => h.disj b b' i i' B B' hne h1 h1' (by rw [← e b i h1]; exact h2) (by rw [← e b' i' h1']; exact h2'), h.base, Nat.le_trans h.lk hl⟩

theorem HR.join {w' : World} {μ1 : Inj} {n m : Nat} {H1 H2 : Heap} (h : HR base lk μ H2 w) (hn : ∀ b, n ≤ b → b < m → μ b = none) (k : HR w.heap.size n μ1 H1 w') (hb : Below w.heap.size w w')
  (hm : H1.length = m) (hm2 : m ≤ H2.length) (he : ∀ b : Nat, b < m → H2[b]? = H1[b]?) (hold : ∀ b, b < n → ∀ i, μ1 b = some i → μ b = some i) (hlk : lk ≤ n) :
  HR base lk (fun b => if n ≤ b ∧ b < m then μ1 b else μ b) H2 w' := by
 have hw := h.below hb
 have l1 : Le 0 μ (fun b => if n ≤ b ∧ b < m then μ1 b else μ b) := by
  refine ⟨fun b i hb' => ?_, fun b hb => by omega⟩
  simp only
  rw [if_neg]; exact hb'
  rintro ⟨h1, h2⟩
  rw [hn b h1 h2] at hb'; simp at hb'
 have l2 : Le 0 μ1 (fun b => if n ≤ b ∧ b < m then μ1 b else μ b) := by
  refine ⟨fun b i hb' => ?_, fun b hb => by omega⟩
  simp only
  have := k.dom b i hb'
  by_cases hc : n ≤ b
  ·rw [if_pos ⟨hc, by omega⟩]; exact hb'
  ·rw [if_neg (by omega)]; exact hold b (by omega) i hb'
 have cases' : ∀ b i, (if n ≤ b ∧ b < m then μ1 b else μ b) = some i → (n ≤ b ∧ b < m ∧ μ1 b = some i) ∨ (¬ (n ≤ b ∧ b < m) ∧ μ b = some i) := by
  intro b i hbi
  split at hbi
  ·rename_i hc; exact .inl ⟨hc.1, hc.2, hbi⟩
  ·rename_i hc; exact .inr ⟨hc, hbi⟩
 refine ⟨?_, ?_, ?_, ?_, ?_, ?_, ?_, hw.base, hw.lk⟩
 ·intro b i hbi
  rcases cases' b i hbi with ⟨h1, h2, h3⟩ | ⟨h1, h2⟩
  ·omega
  ·exact hw.dom b i h2
 ·intro b i hbi
  rcases cases' b i hbi with ⟨h1, h2, h3⟩ | ⟨h1, h2⟩
  ·exact k.lt b i h3
  ·exact hw.lt b i h2
 ·intro b i B hbi hB
  rcases cases' b i hbi with ⟨h1, h2, h3⟩ | ⟨h1, h2⟩
  ·rw [he b h2] at hB; exact k.sz b i B h3 hB
  ·exact hw.sz b i B h2 hB
 ·intro b i B hbi hB
  rcases cases' b i hbi with ⟨h1, h2, h3⟩ | ⟨h1, h2⟩
  ·rw [he b h2] at hB; exact k.len b i B h3 hB
  ·exact hw.len b i B h2 hB
 ·intro b i B hbi hB hd j v hj
  rcases cases' b i hbi with ⟨h1, h2, h3⟩ | ⟨h1, h2⟩
  ·rw [he b h2] at hB
   obtain ⟨v', a, c⟩ := k.cell b i B h3 hB hd j v hj
   exact ⟨v', a, c.mono l2⟩
  ·obtain ⟨v', a, c⟩ := hw.cell b i B h2 hB hd j v hj
   exact ⟨v', a, c.mono l1⟩
 ·intro b i B hbi hB hd hlk'
  rcases cases' b i hbi with ⟨h1, h2, h3⟩ | ⟨h1, h2⟩
  ·rw [he b h2] at hB
   obtain ⟨a, c⟩ := k.own b i B h3 hB hd h1
   exact ⟨Nat.le_trans h.base a, c⟩
  ·exact hw.own b i B h2 hB hd hlk'
 ·intro b b' i i' B B' hne hbi hbi' hB hB' hd hd' hlk'
  rcases cases' b i hbi with ⟨h1, h2, h3⟩ | ⟨h1, h2⟩ <;> rcases cases' b' i' hbi' with ⟨h1', h2', h3'⟩ | ⟨h1', h2'⟩
  ·rw [he b h2] at hB; rw [he b' h2'] at hB'
   exact k.disj b b' i i' B B' hne h3 h3' hB hB' hd hd' h1
  ·rw [he b h2] at hB
   have := (k.own b i B h3 hB hd h1).1
   rcases h.lt b' i' h2' with g | ⟨g1, g2⟩
   ·exact .inl (by omega)
   ·exact .inr (.inr (by omega))
  ·rw [he b' h2'] at hB'
   have := (k.own b' i' B' h3' hB' hd' h1').1
   rcases h.lt b i h2 with g | ⟨g1, g2⟩
   ·exact .inl (by omega)
   ·exact .inr (.inl (by omega))
  ·exact hw.disj b b' i i' B B' hne h2 h2' hB hB' hd hd' hlk'


theorem pure_sim {call : q0l} {o : Oper} {σ : Env} {a : Act} {v : Value} {H' : Heap} (hpu : q2k o.op = true) (he : OpR μ σ a o.op) (hi : iop P call lk o.op σ H = some (v, H')) :
  H' = H ∧ ∃ v', (execOp a.eval o).run P w = .ok (.value v') w ∧ VR μ v v' := by
 obtain ⟨dst, op, type, pos, after, guard⟩ := o
 simp only at he hi hpu
 unfold iop at hi
 split at hi
 ·-- move
  simp only [Option.some.injEq, Prod.mk.injEq] at hi
  obtain ⟨rfl, rfl⟩ := hi
  exact ⟨rfl, _, rfl, he _ (by simp [Op.operands])⟩
 ·-- assign
  simp only [Option.some.injEq, Prod.mk.injEq] at hi
  obtain ⟨rfl, rfl⟩ := hi
  exact ⟨rfl, _, rfl, he _ (by simp [Op.operands])⟩
 ·-- pick
  rename_i c x y
  have hc := he c (by simp [Op.operands])
  have hx := he x (by simp [Op.operands])
  have hy := he y (by simp [Op.operands])
  split at hi
  ·rename_i t ht
   simp only [Option.some.injEq, Prod.mk.injEq] at hi
   obtain ⟨rfl, rfl⟩ := hi
   rw [ht] at hc
   have := hc.bool_inv
   cases t
   ·exact ⟨rfl, a.eval y, by simp [execOp, this, asBool], hy⟩
   ·exact ⟨rfl, a.eval x, by simp [execOp, this, asBool], hx⟩
  ·simp at hi
 ·simp [q2k] at hpu
 ·simp [q2k] at hpu
 ·-- build
  rename_i t parts
  obtain ⟨u, hu, hv⟩ := Option.map_eq_some_iff.1 hi
  simp only [Prod.mk.injEq] at hv
  obtain ⟨rfl, rfl⟩ := hv
  obtain ⟨v', h1, h2⟩ := build_sim (P := P) (w := w) (w1k parts.toList (fun x hx => he x (by simpa [Op.operands] using hx))) hu
  refine ⟨rfl, v', ?_, h2⟩
  have : (parts.map fun (i, x) => (i, a.eval x)) = (parts.toList.map fun (i, x) => (i, a.eval x)).toArray := by rw [← Array.toList_map, Array.toArray_toList]
  simp only [execOp, this, Sem.run_bind, h1, Result.andThen_ok, Sem.run_pure]
 ·simp [q2k] at hpu
 ·simp [q2k] at hpu
 ·simp [q2k] at hpu
 ·simp [q2k] at hpu
 ·-- binOp
  rename_i op t x y t'
  obtain ⟨u, hu, hv⟩ := Option.map_eq_some_iff.1 hi
  simp only [Prod.mk.injEq] at hv
  obtain ⟨rfl, rfl⟩ := hv
  obtain ⟨v', h1, h2⟩ := bin_sim (P := P) (w := w) x y (he x (by simp [Op.operands])) (he y (by simp [Op.operands])) hu
  refine ⟨rfl, v', ?_, h2⟩
  simp only [execOp]
  rw [Sem.run_bind, h1]; rfl
 ·-- unOp
  rename_i op t x
  obtain ⟨u, hu, hv⟩ := Option.map_eq_some_iff.1 hi
  simp only [Prod.mk.injEq] at hv
  obtain ⟨rfl, rfl⟩ := hv
  obtain ⟨v', h1, h2⟩ := un_sim (P := P) (w := w) (he x (by simp [Op.operands])) hu
  refine ⟨rfl, v', ?_, h2⟩
  simp only [execOp]
  rw [Sem.run_bind, h1]; rfl
 ·simp [q2k] at hpu
 ·simp [q2k] at hpu
 ·simp [q2k] at hpu
 ·simp [q2k] at hpu
 ·-- fieldAddr
  rename_i t x i
  obtain ⟨u, hu, hv⟩ := Option.map_eq_some_iff.1 hi
  simp only [Prod.mk.injEq] at hv
  obtain ⟨rfl, rfl⟩ := hv
  obtain ⟨v', h1, h2⟩ := w1u (P := P) (w := w) (he x (by simp [Op.operands])) hu
  refine ⟨rfl, v', ?_, h2⟩
  simp only [execOp]
  rw [Sem.run_bind, h1]; rfl
 ·-- field
  rename_i t x i
  obtain ⟨u, hu, hv⟩ := Option.map_eq_some_iff.1 hi
  simp only [Prod.mk.injEq] at hv
  obtain ⟨rfl, rfl⟩ := hv
  obtain ⟨v', h1, h2⟩ := field_sim (P := P) (w := w) (he x (by simp [Op.operands])) hu
  refine ⟨rfl, v', ?_, h2⟩
  simp only [execOp]
  rw [Sem.run_bind, h1]; rfl
 ·-- indexAddr
  rename_i t x ix
  obtain ⟨u, hu, hv⟩ := Option.map_eq_some_iff.1 hi
  simp only [Prod.mk.injEq] at hv
  obtain ⟨rfl, rfl⟩ := hv
  obtain ⟨v', h1, h2⟩ := w1p (P := P) (w := w) (he x (by simp [Op.operands])) (he ix (by simp [Op.operands])) hu
  refine ⟨rfl, v', ?_, h2⟩
  simp only [execOp]
  rw [Sem.run_bind, h1]; rfl
 ·-- index
  rename_i t x ix
  obtain ⟨u, hu, hv⟩ := Option.map_eq_some_iff.1 hi
  simp only [Prod.mk.injEq] at hv
  obtain ⟨rfl, rfl⟩ := hv
  obtain ⟨v', h1, h2⟩ := index_sim (P := P) (w := w) (he x (by simp [Op.operands])) (he ix (by simp [Op.operands])) hu
  refine ⟨rfl, v', ?_, h2⟩
  simp only [execOp]
  rw [Sem.run_bind, h1]; rfl
 ·-- extract
  rename_i x i
  have hx := he x (by simp [Op.operands])
  split at hi
  ·rename_i vs hvs
   obtain ⟨u, hu, hv⟩ := Option.map_eq_some_iff.1 hi
   simp only [Prod.mk.injEq] at hv
   obtain ⟨rfl, rfl⟩ := hv
   rw [hvs] at hx
   generalize hax : a.eval x = ax at hx
   cases hx with
   | one hx => cases hx
   | tuple hs hj =>
    rename_i ds
    have hlt : i < vs.size := (Array.getElem?_eq_some_iff.1 hu).1
    have := hj i
    rw [Array.getD_eq_getD_getElem?, hu, Array.getD_eq_getD_getElem?, Array.getElem?_eq_getElem (by omega)] at this
    refine ⟨rfl, ds[i], ?_, this⟩
    simp only [execOp, hax, Instr.extract, Array.getElem?_eq_getElem (show i < ds.size by omega)]; rfl
  ·simp at hi
 ·simp [q2k] at hpu
 ·simp at hi

end
end Gx
end
