/- Regions in the order of the text. -/
import Derived.Test.YtehnbdbhjeffaaaGreatGz27
import Derived.Test.YtehnbdbhjeffaaaGreatGz28
import Derived.CallsIn
import Derived.OrdersIn
set_option linter.all false
section
set_option autoImplicit false
namespace Gx
open Go Go.RowKit
section
variable {P : Program} {w : World} {base lk : Nat} {μ : Inj} {H : Heap}

def w3u (P : Program) (call : q0l) : Prop :=
 ∀ (base lk : Nat) (μ : Inj) (H : Heap) (w : World) (g : FuncId) (fn : Func) (args : List Value) (args' : Array Value) (v : Value) (H' : Heap), P.funcs[g]? = some fn → HR base lk μ H w → args.length = args'.size →
  (∀ j, VR μ (args.getD j undef) (args'.getD j undef)) → call lk g args H = some (v, H') →
  Calls P g args' w fun e w' => ∃ v' μ', e = .returned v' ∧ Le H.length μ μ' ∧ HR base lk μ' H' w' ∧ Below base w w' ∧ VR μ' v v'

def w4p (P : Program) (md : Md) (call : q0l) : Prop :=
 ∀ (base lk : Nat) (μ : Inj) (H : Heap) (w : World) (g : FuncId) (fn : Func) (args : List Value) (args' : Array Value) (v : Value) (H' : Heap), md g ≠ 3 → P.funcs[g]? = some fn → HR base lk μ H w → args.length = args'.size →
  (∀ j, VR μ (args.getD j undef) (args'.getD j undef)) → call lk g args H = some (v, H') →
  Calls P g args' w fun e w' => ∃ v' μ', e = .returned v' ∧ Le H.length μ μ' ∧ HR base lk μ' H' w' ∧ Below base w w' ∧ VR μ' v v'

theorem put_rel {σ : Env} {a : Act} {d : Option Nat} {v v' : Value} (h : ER μ σ a.tmps) (hv : VR μ v v') (hd : ∀ k, d = some k → k < a.tmps.size) : ER μ (put σ d v) (a.put d v').tmps := by
 cases d with
 | none => exact h
 | some k =>
  have hk := hd k rfl
  intro t
  show VR μ (upd σ k v t) ((a.tmps.setIfInBounds k v').getD t undef)
  unfold upd
  rw [Array.getD_eq_getD_getElem?, Array.getElem?_setIfInBounds]
  by_cases e : t = k
  ·subst e
   rw [if_pos rfl, if_pos rfl, if_pos hk]; exact hv
  ·rw [if_neg e, if_neg (Ne.symm e), ← Array.getD_eq_getD_getElem?]; exact h t

theorem q6a (a : Act) (d : Option Nat) (v : Value) : (a.put d v).tmps.size = a.tmps.size := by
 cases d <;> simp [Act.put]
theorem q6q (a : Act) (d : Option Nat) (v : Value) : (a.put d v).defers = a.defers := by
 cases d <;> rfl

theorem ER.mono {μ' : Inj} (hl : Le H.length μ μ') {σ : Env} {t : Array Value} (h : ER μ σ t) : ER μ' σ t := fun x => (h x).mono hl

theorem VR.tuple_inv {cs : Array Value} {v : Value} (h : VR μ (.tuple cs) v) : ∃ ds, v = .tuple ds := by
 cases h with
 | one h => cases h
 | tuple hs h => exact ⟨_, rfl⟩

theorem want_rel {ops : Array Oper} {o : Oper} {σ : Env} {a : Act} {b : Bool} (h : ∀ j want d, o.guard = some (j, want) → (ops[j]?).bind (·.dst) = some d → VR μ (σ d) (a.tmps.getD d undef)) (hw : w3z ops o σ = some b) :
  Region.wanted o (yielded ops a.tmps) = b := by
 unfold w3z at hw
 unfold Region.wanted
 split at hw
 ·rename_i hg
  injection hw with hw; rw [hg, ← hw]
 ·rename_i j want hg
  rw [hg]
  simp only
  unfold yielded
  split at hw
  ·rename_i d hd
   have hv := h j want d hg hd
   rw [hd]
   simp only [Option.bind_some]
   rw [Array.getD_eq_getD_getElem?] at hv
   split at hw
   ·rename_i b' hb
    injection hw with hw; subst hw
    rw [hb] at hv
    have := hv.bool_inv
    cases ht : a.tmps[d]? with
    | none => rw [ht] at this; simp [undef] at this
    | some u => rw [ht] at this; simp at this; subst this; simp
   ·rename_i vs hb
    injection hw with hw; subst hw
    rw [hb] at hv
    obtain ⟨ds, hds⟩ := hv.tuple_inv
    cases ht : a.tmps[d]? with
    | none => simp
    | some u => rw [ht] at hds; simp at hds; subst hds; simp
   ·simp at hw
  ·rename_i hd
   injection hw with hw; subst hw
   rw [hd]; simp

def Fr (ro : Option Nat) : Fence := { Fence.wide with round := ro }
theorem callsIn_fr {ro : Option Nat} {dp : Nat} {f : FuncId} {args : Array Value} {w : World} {R : Ending → World → Prop} (h : Calls P f args w R) : CallsIn (Fr ro) dp P f args w R :=
 (callsIn_wide (n := dp)).2 h
theorem fr_room (ro : Option Nat) (n : Nat) : (Fr ro).room n := fun d hd => by cases hd
theorem fr_fn (ro : Option Nat) (f : FuncId) : (Fr ro).fn f := trivial
theorem fr_depth (ro : Option Nat) (p : Prop) (h : (Fr ro).depth.isSome = true) : p := by cases h
section
variable {ro : Option Nat} {dp : Nat}

theorem step_sim (hp : q7i P = true) {call : q0l} (hc : w3u P call) {o : Oper} {σ : Env} {a : Act} {v : Value} {H' : Heap} {lk' : Nat} (next : Act → World → Prop) (Q : Exit → Act → World → Prop)
  (h : HR base lk' μ H w) (he : OpR μ σ a o.op) (hi : iop P call lk' o.op σ H = some (v, H'))
  (hn : ∀ v' w' μ', Le H.length μ μ' → HR base lk' μ' H' w' → Below base w w' → VR μ' v v' → next (a.put o.dst v') w') : o.wpIn (Fr ro) dp P a w next Q := by
 refine ⟨fun f _ => fr_fn ro f, ?_⟩
 rw [Oper.semAt_eq _ _ _ (fun c hc => by rw [hc] at hi; cases hi)]
 unfold Oper.uponIn
 rcases op_sim hp h he hi with ⟨v', w', μ', ho, h1, h2, h3, h4⟩ | ⟨g, fn, args, args', h1, h2, h3, h4, h5, h6⟩
 ·rcases ho with ho | ⟨ho, rfl⟩
  ·rw [ho]; exact hn v' w' μ' h1 h2 h3 h4
  ·rw [ho]; exact hn undef w' μ' h1 h2 h3 h4
 ·rw [h3]
  refine ⟨fr_depth ro _, callsIn_fr ((hc base lk' μ H w g fn args args' v H' h1 h h5 h6 h4).mono ?_)⟩
  rintro e w' ⟨v', μ', rfl, k1, k2, k3, k4⟩
  exact hn v' w' μ' k1 k2 k3 k4

theorem lit_sim {call : q0l} {o : Oper} {σ : Env} {a : Act} {v : Value} {H' : Heap} {lk' : Nat} (next : Act → World → Prop) (Q : Exit → Act → World → Prop) (hl : isLit o.op = true)
  (h : HR base lk' μ H w) (he : OpR μ σ a o.op) (hi : iop P call lk' o.op σ H = some (v, H'))
  (hn : ∀ v' w' μ', Le H.length μ μ' → HR base lk' μ' H' w' → Below base w w' → VR μ' lit0 v' → next (a.put o.dst v') w') : o.wpIn (Fr ro) dp P a w next Q := by
 refine ⟨fun f _ => fr_fn ro f, ?_⟩
 rw [Oper.semAt_eq _ _ _ (fun c hc => by rw [hc] at hi; cases hi)]
 unfold Oper.uponIn
 obtain ⟨dst, op, type, pos, after, guard⟩ := o
 simp only at he hi hl hn ⊢
 cases op <;> simp only [isLit, Bool.false_eq_true] at hl
 rename_i t len parts
 have hl := eq_of_beq hl
 obtain ⟨v', w', μ', h1, h2, h3, h4, _, h5⟩ := q9w (P := P) h (w1k parts.toList (fun x hx => he x (by simpa [Op.operands] using hx))) hi
 have hr : (execOp a.eval ⟨dst, .buildSlice t len parts, type, pos, after, guard⟩).run P w = .ok (.value v') w' := by
  have : (parts.map fun (i, x) => (i, a.eval x)) = (parts.toList.map fun (i, x) => (i, a.eval x)).toArray := by rw [← Array.toList_map, Array.toArray_toList]
  simp only [execOp, this, Sem.run_bind, h1, Result.andThen_ok, Sem.run_pure]
 rw [hr]
 exact hn v' w' μ' h2 h3 h4 (h5 hl)

theorem ops_sim (hp : q7i P = true) {call : q0l} (hc : w3u P call) (hst : q1a call) {ops : Array Oper} {n : Nat} (hwf : w3v n ops = true) (Q : Exit → Act → World → Prop) {σ' : Env} {H' : Heap} :
  ∀ (l : List Oper) (k m : Nat), ops.toList.drop k = l → k + m = ops.size → ∀ (σ : Env) (H : Heap) (μ : Inj) (a : Act) (w : World), HR base lk μ H w → ER μ σ a.tmps → n ≤ a.tmps.size →
   iops P call lk false ops l σ H = some (σ', H') →
   (∀ a' w' μ', Le H.length μ μ' → HR base lk μ' H' w' → Below base w w' → ER μ' σ' a'.tmps → a'.tmps.size = a.tmps.size → a'.defers = a.defers → Q .normal a' w') →
   wpOpsIn (Fr ro) dp P ops Q (List.range' k m) a w := by
 intro l
 induction l with
 | nil =>
  intro k m hd hm σ H μ a w h he hn hi hq
  have : m = 0 := by
   have := congrArg List.length hd
   simp at this; omega
  subst this
  simp only [iops, Option.some.injEq, Prod.mk.injEq] at hi
  obtain ⟨rfl, rfl⟩ := hi
  exact hq a w μ (Le.refl _ μ) h (Below.refl _ _) he rfl rfl
 | cons o l ih =>
  intro k m hd hm σ H μ a w h he hn hi hq
  have hk : k < ops.size := by
   have := congrArg List.length hd
   simp at this; omega
  obtain ⟨m, rfl⟩ : ∃ m', m = m' + 1 := ⟨m - 1, by omega⟩
  have ho : ops[k]? = some o := by
   have : (ops.toList.drop k)[0]? = some o := by rw [hd]; rfl
   rw [List.getElem?_drop] at this
   simpa using this
  have hd' : ops.toList.drop (k + 1) = l := by
   have := congrArg List.tail hd
   simpa [List.tail_drop] using this
  have hdst : ∀ d, o.dst = some d → d < a.tmps.size := by
   intro d hdd
   have hm' : o ∈ ops := Array.mem_of_getElem? ho
   unfold w3v at hwf
   rw [Array.all_eq_true_iff_forall_mem] at hwf
   have := hwf o hm'
   rw [hdd] at this
   simp at this; exact Nat.lt_of_lt_of_le this hn
  simp only [iops] at hi
  rw [List.range'_succ]
  simp only [wpOpsIn, ho]
  split at hi
  ·rename_i v H1 hs
   unfold q4g at hs
   cases hw : w3z ops o σ with
   | none => rw [hw] at hs; simp at hs
   | some b =>
    rw [hw] at hs
    have hwant := want_rel (a := a) (fun j want d _ _ => he d) hw
    rw [hwant]
    cases b with
    | false =>
     simp only [Option.some.injEq, Prod.mk.injEq] at hs
     obtain ⟨rfl, rfl⟩ := hs
     simp only [Bool.false_eq_true, if_false]
     refine ⟨fun f _ => fr_fn ro f, ?_⟩
     exact ih (k + 1) m hd' (by omega) _ H μ (a.put o.dst undef) w h (put_rel he (q3t μ) hdst) (by rw [q6a]; exact hn) hi (fun a' w' μ' h1 h2 h3 h4 h5 h6 => hq a' w' μ' h1 h2 h3 h4 (by rw [h5, q6a]) (by rw [h6, q6q]))
    | true =>
     simp only [if_true]
     simp only [Bool.false_and, Bool.false_eq_true, if_false] at hs
     replace hs : iop P call lk o.op σ H = some (v, H1) := by
      obtain ⟨v0, h0, hl⟩ := q8e hs
      rw [w2w] at hl
      injection hl with hl
      rw [h0, hl]
     refine step_sim hp hc _ Q h (fun x _ => ev_rel he x) hs (fun v' w' μ' h1 h2 h3 h4 => ?_)
     exact ih (k + 1) m hd' (by omega) _ H1 μ' (a.put o.dst v') w' h2 (put_rel (he.mono h1) h4 hdst) (by rw [q6a]; exact hn) hi (fun a' w'' μ'' k1 k2 k3 k4 k5 k6 => hq a' w'' μ'' (h1.trans k1 (iop_stab hst hs).1) k2 (h3.trans k3) k4 (by rw [k5, q6a]) (by rw [k6, q6q]))
  ·simp at hi

end
end
end Gx
end
