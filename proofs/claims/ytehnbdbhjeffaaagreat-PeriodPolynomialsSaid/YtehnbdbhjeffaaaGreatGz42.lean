/- The interpreter with a tree for its environment and a table of calls: for numbers that are known. -/
import Derived.Test.YtehnbdbhjeffaaaGreatGz5
set_option linter.all false
section
set_option autoImplicit false
namespace Gx
open Go Go.RowKit

inductive ET where
 | nil
 | node (v : Value) (l r : ET)
def ET.get : ET → Nat → Value
 | .nil, _ => undef
 | .node v _ _, 0 => v
 | .node _ l r, n + 1 => bif Nat.beq (n % 2) 0 then l.get (n / 2) else r.get (n / 2)
def ET.set : Nat → ET → Nat → Value → ET
 | 0, t, _, _ => t
 | _ + 1, .nil, 0, v => .node v .nil .nil
 | _ + 1, .node _ l r, 0, v => .node v l r
 | d + 1, .nil, n + 1, v => bif Nat.beq (n % 2) 0 then .node undef (ET.set d .nil (n / 2) v) .nil else .node undef .nil (ET.set d .nil (n / 2) v)
 | d + 1, .node w l r, n + 1, v => bif Nat.beq (n % 2) 0 then .node w (ET.set d l (n / 2) v) r else .node w l (ET.set d r (n / 2) v)
theorem ET.get_set : ∀ (d : Nat) (t : ET) (n : Nat) (v : Value) (j : Nat), n + 1 < 2 ^ d → (ET.set d t n v).get j = if j = n then v else t.get j
 | 0, t, n, v, j, h => by simp at h
 | d + 1, .nil, 0, v, 0, h => rfl
 | d + 1, .nil, 0, v, j + 1, h => by
  rw [if_neg (by omega)]
  simp only [ET.set, ET.get]
  cases Nat.beq (j % 2) 0 <;> rfl
 | d + 1, .node w l r, 0, v, 0, h => rfl
 | d + 1, .node w l r, 0, v, j + 1, h => by
  rw [if_neg (by omega)]
  simp only [ET.set, ET.get]
 | d + 1, .nil, n + 1, v, j, h => by
  have ih := ET.get_set d .nil (n / 2) v
  have hn : n / 2 + 1 < 2 ^ d := by rw [Nat.pow_succ] at h; omega
  simp only [ET.set]
  cases hb : Nat.beq (n % 2) 0 with
  | true =>
   have hb := Nat.eq_of_beq_eq_true hb
   cases j with
   | zero => rw [if_neg (by omega)]; rfl
   | succ j =>
    simp only [cond_true, ET.get]
    cases hj : Nat.beq (j % 2) 0 with
    | true =>
     have hj := Nat.eq_of_beq_eq_true hj
     simp only [cond_true]
     rw [ih _ hn]
     by_cases hjn : j = n
     ·subst hjn; rw [if_pos rfl, if_pos rfl]
     ·rw [if_neg (by omega), if_neg (by omega)]; rfl
    | false =>
     have hj := Nat.ne_of_beq_eq_false hj
     simp only [cond_false]
     rw [if_neg (by omega)]
  | false =>
   have hb := Nat.ne_of_beq_eq_false hb
   cases j with
   | zero => rw [if_neg (by omega)]; rfl
   | succ j =>
    simp only [cond_false, ET.get]
    cases hj : Nat.beq (j % 2) 0 with
    | true =>
     have hj := Nat.eq_of_beq_eq_true hj
     simp only [cond_true]
     rw [if_neg (by omega)]
    | false =>
     have hj := Nat.ne_of_beq_eq_false hj
     simp only [cond_false]
     rw [ih _ hn]
     by_cases hjn : j = n
     ·subst hjn; rw [if_pos rfl, if_pos rfl]
     ·rw [if_neg (by omega), if_neg (by omega)]; rfl
 | d + 1, .node w l r, n + 1, v, j, h => by
  have ihl := ET.get_set d l (n / 2) v
  have ihr := ET.get_set d r (n / 2) v
  have hn : n / 2 + 1 < 2 ^ d := by rw [Nat.pow_succ] at h; omega
  simp only [ET.set]
  cases hb : Nat.beq (n % 2) 0 with
  | true =>
   have hb := Nat.eq_of_beq_eq_true hb
   cases j with
   | zero => rw [if_neg (by omega)]; rfl
   | succ j =>
    simp only [cond_true, ET.get]
    cases hj : Nat.beq (j % 2) 0 with
    | true =>
     have hj := Nat.eq_of_beq_eq_true hj
     simp only [cond_true]
     rw [ihl _ hn]
     by_cases hjn : j = n
     ·subst hjn; rw [if_pos rfl, if_pos rfl]
     ·rw [if_neg (by omega), if_neg (by omega)]
    | false =>
     have hj := Nat.ne_of_beq_eq_false hj
     simp only [cond_false]
     rw [if_neg (by omega)]
  | false =>
   have hb := Nat.ne_of_beq_eq_false hb
   cases j with
   | zero => rw [if_neg (by omega)]; rfl
   | succ j =>
    simp only [cond_false, ET.get]
    cases hj : Nat.beq (j % 2) 0 with
    | true =>
     have hj := Nat.eq_of_beq_eq_true hj
     simp only [cond_true]
     rw [if_neg (by omega)]
    | false =>
     have hj := Nat.ne_of_beq_eq_false hj
     simp only [cond_false]
     rw [ihr _ hn]
     by_cases hjn : j = n
     ·subst hjn; rw [if_pos rfl, if_pos rfl]
     ·rw [if_neg (by omega), if_neg (by omega)]
def kput (T : ET) : Option Nat → Value → Option ET
 | none, _ => some T
 | some d, v => bif Nat.ble d 4000 then some (ET.set 12 T d v) else none
theorem kput_eq {T T' : ET} {d : Option Nat} {v : Value} (h : kput T d v = some T') : T'.get = put T.get d v := by
 cases d with
 | none => simp only [kput, Option.some.injEq] at h; subst h; rfl
 | some d =>
  simp only [kput] at h
  cases hb : Nat.ble d 4000 with
  | true =>
   rw [hb] at h
   simp only [cond_true, Option.some.injEq] at h
   have hd := Nat.le_of_ble_eq_true hb
   subst h
   funext j
   rw [ET.get_set 12 T d v j (by omega)]
   rfl
  | false => rw [hb] at h; cases h
def argsT : List Value → Nat → ET → Option ET
 | [], _, T => some T
 | v :: r, i, T => match kput T (some i) v with
  | some T' => argsT r (i + 1) T'
  | none => none
theorem argsT_eq : ∀ (args : List Value) (i : Nat) (T T' : ET), argsT args i T = some T' → T'.get = fun j => if j < i then T.get j else if j - i < args.length then args.getD (j - i) undef else T.get j
 | [], i, T, T', h => by
  simp only [argsT, Option.some.injEq] at h
  subst h
  funext j
  simp
 | v :: r, i, T, T', h => by
  simp only [argsT] at h
  cases hk : kput T (some i) v with
  | none => rw [hk] at h; cases h
  | some T1 =>
   rw [hk] at h
   have h1 := kput_eq hk
   rw [argsT_eq r (i + 1) T1 T' h, h1]
   funext j
   simp only [put, upd, List.length_cons]
   by_cases h2 : j < i
   ·rw [if_pos (by omega), if_neg (by omega), if_pos h2]
   ·rw [if_neg h2]
    by_cases h3 : j = i
    ·subst h3
     rw [if_pos (by omega), if_pos rfl, Nat.sub_self, if_pos (by omega)]; rfl
    ·rw [if_neg (by omega), if_neg h3]
     have e : j - i = (j - (i + 1)) + 1 := by omega
     by_cases h4 : j - (i + 1) < r.length
     ·rw [if_pos h4, if_pos (by omega), e, List.getD_cons_succ]
     ·rw [if_neg h4, if_neg (by omega)]
theorem args0_T {args : List Value} {T : ET} (h : argsT args 0 .nil = some T) : T.get = q4j args := by
 rw [argsT_eq args 0 .nil T h]
 funext j
 simp only [Nat.not_lt_zero, if_false, Nat.sub_zero]
 unfold q4j
 by_cases hj : j < args.length
 ·rw [if_pos hj]
 ·rw [if_neg hj]
  rw [List.getD_eq_getElem?_getD, List.getElem?_eq_none (by omega)]; rfl
def kops (P : Program) (call : q0l) (lk : Nat) (draw : Bool) (ops : Array Oper) : List Oper → ET → Heap → Option (ET × Heap)
 | [], T, H => some (T, H)
 | o :: r, T, H => match q4g P call lk draw ops o T.get H with
  | some (v, H') => match kput T o.dst v with
   | some T' => kops P call lk draw ops r T' H'
   | none => none
  | none => none
abbrev Prim := FuncId → List Value → Heap → Option (Value × Heap)
def kwrap (prim : Prim) (md : Md) (call : q0l) : q0l := fun lk g args H => match prim g args H with
 | some r => some r
 | none => q3q md call lk g args H
section
variable {P : Program} {md : Md} {prim : Prim}
def SoundC (P : Program) (md : Md) (c : q0l) : Prop := ∀ lk g args H r, c lk g args H = some r → ∃ m, q1k P md m lk g args H = some r
def SoundW (P : Program) (md : Md) (c : q0l) : Prop := ∀ lk g args H r, c lk g args H = some r → ∃ m, wrap md (q1k P md m) lk g args H = some r
theorem kwrap_sound (hp : ∀ lk g args H r, prim g args H = some r → ∃ m, wrap md (q1k P md m) lk g args H = some r) {c : q0l} (h : SoundC P md c) : SoundW P md (kwrap prim md c) := by
 intro lk g args H r hr
 unfold kwrap at hr
 split at hr
 ·rename_i r' hpr
  injection hr with hr; subst hr
  exact hp lk g args H _ hpr
 ·have key : md g ≠ 5 → ∀ m, q3q md (q1k P md m) lk g args H = some r → wrap md (q1k P md m) lk g args H = some r := by
   intro h5 m hm
   unfold wrap
   split
   ·rename_i hm5; exact absurd hm5 h5
   ·exact hm
  unfold q3q at hr
  split at hr
  ·rename_i hm
   split at hr
   ·rename_i v H' h1
    obtain ⟨m, h2⟩ := h _ _ _ _ _ h1
    refine ⟨m, key (by omega) m ?_⟩
    unfold q3q
    rw [hm]
    simp only [h2]; exact hr
   ·cases hr
  ·rename_i hm
   split at hr
   ·rename_i v H' h1
    obtain ⟨m, h2⟩ := h _ _ _ _ _ h1
    refine ⟨m, key (by omega) m ?_⟩
    unfold q3q
    rw [hm]
    simp only [h2]; exact hr
   ·cases hr
  ·cases hr
  ·rename_i hm
   split at hr
   ·rename_i hk
    split at hr
    ·rename_i v H' h1
     obtain ⟨m, h2⟩ := h _ _ _ _ _ h1
     refine ⟨m, key (by omega) m ?_⟩
     unfold q3q
     rw [hm]
     simp only [hk, if_true, h2]; exact hr
    ·cases hr
   ·cases hr
  ·cases hr
  ·rename_i h1 h2 h3 h4 h5
   obtain ⟨m, h6⟩ := h _ _ _ _ _ hr
   refine ⟨m, key h5 m ?_⟩
   unfold q3q
   split
   ·rename_i hm; exact absurd hm h1
   ·rename_i hm; exact absurd hm h2
   ·rename_i hm; exact absurd hm h3
   ·rename_i hm; exact absurd hm h4
   ·rename_i hm; exact absurd hm h5
   ·exact h6
theorem iop_sound {c : q0l} (h : SoundW P md c) {lk : Nat} {o : Op} {σ : Env} {H : Heap} {r : Value × Heap} (hr : iop P c lk o σ H = some r) : ∃ m, iop P (wrap md (q1k P md m)) lk o σ H = some r := by
 unfold iop at hr
 split at hr <;> first | (cases hr; done) | (exact ⟨0, by unfold iop; exact hr⟩) | skip
 rename_i cc
 split at hr <;> first | (cases hr; done) | (rename_i hcc; exact ⟨0, by unfold iop; simp only [hcc]; exact hr⟩) | skip
 rename_i f hf
 split at hr
 ·rename_i g first cap hg
  split at hr
  ·rename_i hs
   unfold q3g at hr
   split at hr
   ·cases hr
   ·rename_i fn hfn
    split at hr
    ·rename_i hb
     obtain ⟨m, hm⟩ := h _ _ _ _ _ hr
     refine ⟨m, ?_⟩
     unfold iop
     simp only [hf, hg, if_pos hs]
     unfold q3g
     simp only [hfn, if_pos hb]
     exact hm
    ·rename_i hb
     refine ⟨0, ?_⟩
     unfold iop
     simp only [hf, hg, if_pos hs]
     unfold q3g
     simp only [hfn, if_neg hb]
     exact hr
  ·cases hr
 ·cases hr
theorem istep_sound {c : q0l} (h : SoundW P md c) {lk : Nat} {draw : Bool} {ops : Array Oper} {o : Oper} {σ : Env} {H : Heap} {r : Value × Heap} (hr : q4g P c lk draw ops o σ H = some r) : ∃ m, q4g P (wrap md (q1k P md m)) lk draw ops o σ H = some r := by
 unfold q4g at hr
 split at hr
 ·cases hr
 ·rename_i hw
  exact ⟨0, by unfold q4g; rw [hw]; exact hr⟩
 ·rename_i hw
  obtain ⟨v0, h0, h1⟩ := q8e (v := r.1) (H := r.2) hr
  obtain ⟨m, hm⟩ := iop_sound h h0
  exact ⟨m, by unfold q4g; rw [hw]; simp only [hm, Option.map_some, h1]⟩
theorem kops_sound {c : q0l} (h : SoundW P md c) {lk : Nat} {draw : Bool} {ops : Array Oper} : ∀ (l : List Oper) (T : ET) (H : Heap) (T' : ET) (H' : Heap), kops P c lk draw ops l T H = some (T', H') → ∃ m, iops P (wrap md (q1k P md m)) lk draw ops l T.get H = some (T'.get, H')
 | [], T, H, T', H', hr => by
  simp only [kops, Option.some.injEq, Prod.mk.injEq] at hr
  obtain ⟨rfl, rfl⟩ := hr
  exact ⟨0, rfl⟩
 | o :: l, T, H, T', H', hr => by
  simp only [kops] at hr
  split at hr
  ·rename_i v H1 hs
   split at hr
   ·rename_i T1 hT
    obtain ⟨m1, h1⟩ := istep_sound h hs
    obtain ⟨m2, h2⟩ := kops_sound h l _ _ _ _ hr
    rw [kput_eq hT] at h2
    refine ⟨max m1 m2, ?_⟩
    have e1 : q4g P (wrap md (q1k P md (max m1 m2))) lk draw ops o T.get H = some (v, H1) := by
     unfold q4g at h1 ⊢
     split at h1
     ·cases h1
     ·rename_i hw; exact h1
     ·rename_i hw
      obtain ⟨v0, h0, h3⟩ := q8e h1
      rw [iop_le (q5k (P := P) (md := md) (Nat.le_max_left m1 m2)) h0, Option.map_some, h3]
    simp only [iops, e1]
    exact q3i (q5k (P := P) (md := md) (Nat.le_max_right m1 m2)) _ _ _ _ h2
   ·cases hr
  ·cases hr
end
end Gx
end
