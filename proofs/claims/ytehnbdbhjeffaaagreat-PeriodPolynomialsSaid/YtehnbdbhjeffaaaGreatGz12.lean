/- Lists in the memory of the mini interpreter: what a slice holds, and a slice that grows. -/
import Derived.Test.YtehnbdbhjeffaaaGreatGz9
set_option linter.all false
section
set_option autoImplicit false
namespace Gx
open Go Go.RowKit

class Enc (α : Type) where
 enc : α → List Value
 n : Nat
 len : ∀ x, (enc x).length = n

section
variable {α : Type} [Enc α]
def q0g (l : List α) : List Value := l.flatMap Enc.enc
theorem cells_nil : q0g ([] : List α) = [] := rfl
theorem q1i (x : α) (l : List α) : q0g (x :: l) = Enc.enc x ++ q0g l := rfl
theorem w1z (l r : List α) : q0g (l ++ r) = q0g l ++ q0g r := by simp [q0g]
theorem q1l (l : List α) : (q0g l).length = l.length * Enc.n α := by
 induction l with
 | nil => simp [q0g]
 | cons x l ih => rw [q1i, List.length_append, ih, Enc.len, List.length_cons, Nat.add_mul]; omega
def lblk (l : List α) : Blk := ⟨q0g l, Enc.n α, false⟩
theorem q6s (l : List α) : (lblk l).c = q0g l := rfl
theorem w2x (l : List α) : (lblk l).sz = Enc.n α := rfl
theorem w3d (l : List α) (i : Nat) : (q0g l).drop (i * Enc.n α) = q0g (l.drop i) := by
 induction i generalizing l with
 | zero => simp
 | succ i ih =>
  cases l with
  | nil => simp [q0g]
  | cons x l =>
   rw [q1i, List.drop_succ_cons, Nat.add_mul, Nat.one_mul, Nat.add_comm, ← List.drop_drop, List.drop_left' (Enc.len x), ih]
theorem q9j (l : List α) (i : Nat) : (q0g l).take (i * Enc.n α) = q0g (l.take i) := by
 induction i generalizing l with
 | zero => simp [q0g]
 | succ i ih =>
  cases l with
  | nil => simp [q0g]
  | cons x l =>
   rw [q1i, List.take_succ_cons, q1i, Nat.add_mul, Nat.one_mul, Nat.add_comm, List.take_append]
   rw [List.take_of_length_le (by rw [Enc.len]; omega), Enc.len, Nat.add_sub_cancel_left, ih]
theorem cells_sub (l : List α) (i : Nat) (h : i < l.length) : ((q0g l).drop (i * Enc.n α)).take (Enc.n α) = Enc.enc l[i] := by
 rw [w3d, List.drop_eq_getElem_cons h, q1i, List.take_left' (Enc.len _)]
theorem w1x (l : List α) (i : Nat) (x : α) (h : i < l.length) : iput (q0g l) (i * Enc.n α) (Enc.enc x) = q0g (l.set i x) := by
 have e : l = l.take i ++ l[i] :: l.drop (i + 1) := by rw [← List.drop_eq_getElem_cons h, List.take_append_drop]
 have e2 : l.set i x = l.take i ++ x :: l.drop (i + 1) := by rw [List.set_eq_take_append_cons_drop, if_pos h]
 rw [e2, w1z, q1i]
 unfold iput
 rw [q9j, Enc.len]
 have : i * Enc.n α + Enc.n α = (i + 1) * Enc.n α := by rw [Nat.add_mul, Nat.one_mul]
 rw [this, w3d, List.append_assoc]

def SL (H : Heap) (a : Option Addr) (l : List α) : Prop :=
 (a = none ∧ l = []) ∨ ∃ b o B, a = some ⟨b, o, none⟩ ∧ q0e H b = some B ∧ B.sz = Enc.n α ∧ (B.c.drop o).take (l.length * Enc.n α) = q0g l ∧ o + l.length * Enc.n α ≤ B.c.length
theorem SL.nil {H : Heap} : SL H none ([] : List α) := .inl ⟨rfl, rfl⟩
theorem SL.blk {H : Heap} {b : Nat} {l : List α} (h : q0e H b = some (lblk l)) : SL H (some ⟨b, 0, none⟩) l :=
 .inr ⟨b, 0, _, rfl, h, rfl, by rw [q6s, List.drop_zero, List.take_of_length_le (by rw [q1l]; exact Nat.le_refl _)], by rw [q6s, q1l]; omega⟩
theorem SL.get {H : Heap} {a : Option Addr} {l : List α} (h : SL H a l) (i : Nat) (hi : i < l.length) : ∃ b o B, a = some ⟨b, o, none⟩ ∧ q0e H b = some B ∧ B.sz = Enc.n α ∧ isub B.c (o + i * Enc.n α) (Enc.n α) = some (Enc.enc l[i]) := by
 rcases h with ⟨_, rfl⟩ | ⟨b, o, B, h1, h2, h3, h4, h5⟩
 ·simp at hi
 ·refine ⟨b, o, B, h1, h2, h3, ?_⟩
  have hm := Nat.mul_le_mul_right (Enc.n α) (show i + 1 ≤ l.length from hi)
  rw [Nat.add_mul] at hm
  unfold isub
  rw [if_pos (by omega), ← cells_sub l i hi, ← h4, List.drop_take, List.take_take, List.drop_drop, Nat.min_eq_left (by omega)]
theorem SL.none_iff {H : Heap} {l : List α} (h : SL H none l) : l = [] := by
 rcases h with ⟨_, h⟩ | ⟨b, o, B, h1, _⟩
 ·exact h
 ·cases h1

theorem SL.get1 {H : Heap} {a : Option Addr} {l : List α} (h : SL H a l) (hn : Enc.n α = 1) (i : Nat) (hi : i < l.length) (c : Value) (hc : Enc.enc l[i] = [c]) : ∃ b o B, a = some ⟨b, o, none⟩ ∧ q0e H b = some B ∧ B.sz = 1 ∧ B.c[o + i]? = some c := by
 obtain ⟨b, o, B, h1, h2, h3, h4⟩ := h.get i hi
 rw [hn] at h3 h4
 refine ⟨b, o, B, h1, h2, h3, ?_⟩
 rw [Nat.mul_one, hc] at h4
 unfold isub at h4
 split at h4
 ·rename_i hlt
  injection h4 with h4
  have h5 : ((B.c.drop (o + i)).take 1)[0]? = [c][0]? := by rw [h4]
  rw [List.getElem?_take_of_lt (by omega), List.getElem?_drop] at h5
  simpa using h5
 ·cases h4
theorem SL.take {H : Heap} {a : Option Addr} {l : List α} (h : SL H a l) (n : Nat) (hn : n ≤ l.length) : SL H a (l.take n) := by
 rcases h with ⟨h1, rfl⟩ | ⟨b, o, B, h1, h2, h3, h4, h5⟩
 ·exact .inl ⟨h1, by simp⟩
 ·have hm := Nat.mul_le_mul_right (Enc.n α) hn
  refine .inr ⟨b, o, B, h1, h2, h3, ?_, by rw [List.length_take, Nat.min_eq_left hn]; omega⟩
  rw [List.length_take, Nat.min_eq_left hn, ← q9j, ← h4, List.take_take, Nat.min_eq_left hm]
theorem SL.drop {H : Heap} {b o : Nat} {l : List α} (h : SL H (some ⟨b, o, none⟩) l) (m : Nat) (hm : m ≤ l.length) : SL H (some ⟨b, o + m * Enc.n α, none⟩) (l.drop m) := by
 rcases h with ⟨h1, rfl⟩ | ⟨b', o', B, h1, h2, h3, h4, h5⟩
 ·cases h1
 ·cases h1
  have hm2 := Nat.mul_le_mul_right (Enc.n α) hm
  refine .inr ⟨b, _, B, rfl, h2, h3, ?_, by rw [List.length_drop, Nat.sub_mul]; omega⟩
  rw [← w3d, ← h4, List.length_drop, Nat.sub_mul, List.drop_take, List.drop_drop]
def Ext (H H' : Heap) : Prop := ∀ b, b < H.length → H'[b]? = H[b]?
theorem Ext.refl (H : Heap) : Ext H H := fun _ _ => rfl
theorem Ext.app (H N : Heap) : Ext H (H ++ N) := fun _ hb => List.getElem?_append_left hb
theorem Ext.le {H H' : Heap} (h : Ext H H') : H.length ≤ H'.length := by
 apply Nat.le_of_not_lt
 intro hl
 have := h H'.length hl
 rw [List.getElem?_eq_none (Nat.le_refl _), List.getElem?_eq_getElem hl] at this
 cases this
theorem Ext.trans {H H' H2 : Heap} (h : Ext H H') (h2 : Ext H' H2) : Ext H H2 := fun b hb => by rw [h2 b (Nat.lt_of_lt_of_le hb h.le), h b hb]
theorem Ext.more {H H' : Heap} (h : Ext H H') (N : Heap) : Ext H (H' ++ N) := h.trans (Ext.app _ _)
theorem Ext.set {H H' : Heap} (h : Ext H H') {b : Nat} (hb : H.length ≤ b) (B : Blk) : Ext H (H'.set b B) := fun c hc => by
 rw [List.getElem?_set_ne (by omega), h c hc]
theorem Ext.live {H H' : Heap} (h : Ext H H') {b : Nat} {B : Blk} (hb : q0e H b = some B) : q0e H' b = some B := by
 have := q0w hb
 unfold q0e at *
 rw [h b this]; exact hb
theorem Ext.sl {H H' : Heap} (h : Ext H H') {a : Option Addr} {l : List α} (hs : SL H a l) : SL H' a l := by
 rcases hs with hs | ⟨b, o, B, h1, h2, h3⟩
 ·exact .inl hs
 ·exact .inr ⟨b, o, B, h1, h.live h2, h3⟩

def Own (lo : Nat) (H : Heap) (a : Option Addr) (l : List α) : Prop := (a = none ∧ l = []) ∨ ∃ b, a = some ⟨b, 0, none⟩ ∧ lo ≤ b ∧ q0e H b = some (lblk l)
theorem Own.nil {lo : Nat} {H : Heap} : Own lo H none ([] : List α) := .inl ⟨rfl, rfl⟩
theorem Own.sl {lo : Nat} {H : Heap} {a : Option Addr} {l : List α} (h : Own lo H a l) : SL H a l := by
 rcases h with ⟨rfl, rfl⟩ | ⟨b, rfl, _, h⟩
 ·exact SL.nil
 ·exact SL.blk h
theorem Own.more {lo : Nat} {H : Heap} {a : Option Addr} {l : List α} (h : Own lo H a l) (N : Heap) : Own lo (H ++ N) a l := by
 rcases h with h | ⟨b, h1, h2, h3⟩
 ·exact .inl h
 ·exact .inr ⟨b, h1, h2, q0u h3⟩
def kill (H : Heap) : Option Addr → Heap
 | some ⟨b, _, _⟩ => match H[b]? with
  | some B => H.set b { B with dead := true }
  | none => H
 | none => H
@[go_sem] theorem q9e (H : Heap) (a : Option Addr) : (kill H a).length = H.length := by
 unfold kill; split
 ·split <;> simp
 ·rfl
theorem Own.kill {H0 H : Heap} {a : Option Addr} {l : List α} (he : Ext H0 H) (h : Own H0.length H a l) : Ext H0 (kill H a) := by
 rcases h with ⟨rfl, _⟩ | ⟨b, rfl, h2, h3⟩
 ·exact he
 ·unfold Gx.kill; simp only [q2y h3]; exact he.set h2 _
theorem q4f {H : Heap} {a : Option Addr} {b : Nat} {B : Blk} (hb : q0e H b = some B) (hne : ∀ c o e, a = some ⟨c, o, e⟩ → c ≠ b) : q0e (kill H a) b = some B := by
 unfold kill
 split
 ·rename_i c o e
  split
  ·unfold q0e; rw [List.getElem?_set_ne (hne c o e rfl)]; exact hb
  ·exact hb
 ·exact hb

section
variable {P : Program} {lk : Nat} {t t2 : TypeId}
theorem ap_own {lo : Nat} {H : Heap} {a : Option Addr} {l : List α} {n : Nat} (h : Own lo H a l) (hlk : lk ≤ lo) (hn : n = l.length) (new : List Value) (k : Nat) (hk : k = Enc.n α) (hnew : new.length = k) :
  q2u P lk (H ++ [⟨new, k, false⟩]) t t2 (.slice a n n) (.slice (some ⟨H.length, 0, none⟩) 1 1) = match q0z P t, q0z P t2 with
 | some e, some _ =>
  match tsz P e, q0r P e, q1x P e with
  | some k', some by_, some zs => if k' = k ∧ 0 < k ∧ zs.length = k ∧ 0 < by_ ∧ (n + 1) * by_ ≤ 70368744177664 then
    some (.slice (some ⟨H.length + 1, 0, none⟩) (n + 1) (n + 1), kill (H ++ [⟨new, k, false⟩]) a ++ [⟨q0g l ++ new, k, false⟩]) else none
  | _, _, _ => none
 | _, _ => none := by
 subst hn
 rw [q9h]
 cases q0z P t with
 | none => rfl
 | some e =>
 cases q0z P t2 with
 | none => rfl
 | some e2 =>
 cases htz : tsz P e with
 | none => simp [htz]
 | some k' =>
 cases htb : q0r P e with
 | none => simp [htz, htb]
 | some by_ =>
 cases htzz : q1x P e with
 | none => simp [htz, htb, htzz]
 | some zs =>
 simp only [htz, htb, htzz, w1r, ifirst_eq, q0j, Nat.le_refl, true_and, if_true, Nat.one_mul]
 by_cases hkk : k' = k
 ·subst hkk
  have hs : isub new 0 k' = some new := isub_all _ _ hnew
  simp only [Nat.succ_ne_zero, if_false, if_true, hs]
  rcases h with ⟨rfl, rfl⟩ | ⟨b, rfl, h2, h3⟩
  ·simp only [List.length_nil, Nat.zero_add, Nat.one_mul, Gx.kill, cells_nil, List.nil_append, List.length_append, List.length_cons]
   by_cases hc : 0 < k' ∧ zs.length = k' ∧ 0 < by_
   ·rw [if_pos hc]
    by_cases hb : by_ ≤ 70368744177664
    ·rw [if_pos hb, if_pos ⟨trivial, hc.1, hc.2.1, hc.2.2, hb⟩]
    ·rw [if_neg hb, if_neg (fun x => hb x.2.2.2.2)]
   ·rw [if_neg hc, if_neg (fun x => hc ⟨x.2.1, x.2.2.1, x.2.2.2.1⟩)]
  ·have hg : q0e (H ++ [(⟨new, k', false⟩ : Blk)]) b = some (lblk l) := q0u h3
   simp only [hg, Gx.kill, q2y hg, w2x, q6s, List.drop_zero, Nat.zero_add]
   by_cases hc : 0 < k' ∧ zs.length = k' ∧ 0 < by_
   ·rw [if_pos hc]
    by_cases hb : (l.length + 1) * by_ ≤ 70368744177664
    ·rw [if_pos ⟨trivial, hk.symm, Nat.le_trans hlk h2, hb, by rw [q1l, hk]; exact Nat.le_refl _⟩, if_pos ⟨trivial, hc.1, hc.2.1, hc.2.2, hb⟩]
     rw [List.take_of_length_le (by rw [q1l, hk]; exact Nat.le_refl _)]
     simp [lblk]
    ·rw [if_neg (fun x => hb x.2.2.2.1), if_neg (fun x => hb x.2.2.2.2)]
   ·rw [if_neg hc, if_neg (fun x => hc ⟨x.2.1, x.2.2.1, x.2.2.2.1⟩)]
 ·rw [if_neg (show ¬ k = k' from fun x => hkk x.symm)]
  simp only [hkk, false_and, if_false, Nat.succ_ne_zero]
theorem q9p {lo : Nat} {H : Heap} {a : Option Addr} {l : List α} (x : α) (N : Heap) (hlo : lo ≤ H.length + N.length) : Own lo (kill (H ++ N) a ++ [⟨q0g l ++ Enc.enc x, Enc.n α, false⟩]) (some ⟨H.length + N.length, 0, none⟩) (l ++ [x]) := by
 refine .inr ⟨_, rfl, hlo, ?_⟩
 unfold q0e
 rw [List.getElem?_append_right (by rw [q9e, List.length_append]; exact Nat.le_refl _)]
 simp only [q9e, List.length_append, Nat.sub_self, List.getElem?_cons_zero, lblk, w1z, q1i, cells_nil, List.append_nil]
 simp
end
end
end Gx
end
