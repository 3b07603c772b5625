/- One operation. -/
import Derived.Test.YtehnbdbhjeffaaaGreatGz26
set_option linter.all false
section
set_option autoImplicit false
namespace Gx
open Go Go.RowKit
section
variable {P : Program} {w : World} {base lk : Nat} {μ : Inj} {H : Heap}

def OpR (μ : Inj) (σ : Env) (a : Act) (op : Op) : Prop := ∀ x, x ∈ op.operands.toList → VR μ (ev σ x) (a.eval x)

def Did (P : Program) (base lk : Nat) (μ : Inj) (call : q0l) (o : Oper) (a : Act) (H : Heap) (w : World) (v : Value) (H' : Heap) : Prop :=
 (∃ v' w' μ', Out P o a w v' w' ∧ Le H.length μ μ' ∧ HR base lk μ' H' w' ∧ Below base w w' ∧ VR μ' v v') ∨
 (∃ g fn args args', P.funcs[g]? = some fn ∧ fn.body.isSome = true ∧ (execOp a.eval o).run P w = .ok (.enter g args') w ∧ call lk g args H = some (v, H') ∧ args.length = args'.size ∧ ∀ j, VR μ (args.getD j undef) (args'.getD j undef))

theorem q1r {call : q0l} {o : Oper} {a : Act} {v v' : Value} (h : HR base lk μ H w) (hv : VR μ v v') (hr : (execOp a.eval o).run P w = .ok (.value v') w) : Did P base lk μ call o a H w v H :=
 .inl ⟨v', w, μ, .inl hr, Le.refl _ μ, h, Below.refl _ _, hv⟩

theorem w1k {σ : Env} {a : Act} : ∀ (ps : List (Nat × Operand)), (∀ x, x ∈ ps.map (·.2) → VR μ (ev σ x) (a.eval x)) →
  PR μ (ps.map fun (i, x) => (i, ev σ x)) (ps.map fun (i, x) => (i, a.eval x)) := by
 intro ps h
 refine ⟨by simp, fun j p hj => ?_⟩
 rw [List.getElem?_map] at hj
 obtain ⟨⟨i, x⟩, hx, rfl⟩ := Option.map_eq_some_iff.1 hj
 refine ⟨a.eval x, by rw [List.getElem?_map, hx]; rfl, ?_⟩
 exact h x (by rw [List.mem_map]; exact ⟨(i, x), List.mem_of_getElem? hx, rfl⟩)

theorem list_rel {σ : Env} {a : Act} : ∀ (xs : List Operand), (∀ x, x ∈ xs → VR μ (ev σ x) (a.eval x)) → ∀ j, VR μ ((xs.map (ev σ)).getD j undef) ((xs.map a.eval).getD j undef) := by
 intro xs h j
 by_cases hj : j < xs.length
 ·have := h xs[j] (List.getElem_mem hj)
  simpa [List.getD_eq_getElem?_getD, hj] using this
 ·rw [List.getD_eq_getElem?_getD, List.getD_eq_getElem?_getD, List.getElem?_eq_none (by simp; omega), List.getElem?_eq_none (by simp; omega)]
  exact q3t μ

theorem opt_rel {σ : Env} {a : Act} {x : Option Operand} (h : ∀ y, x = some y → VR μ (ev σ y) (a.eval y)) : OR μ (x.map (ev σ)) (x.map a.eval) := by
 cases x with
 | none => trivial
 | some y => exact h y rfl

theorem app_rel {as bs : List Value} {as' bs' : List Value} (hl : as.length = as'.length) (ha : ∀ j, VR μ (as.getD j undef) (as'.getD j undef)) (hb : ∀ j, VR μ (bs.getD j undef) (bs'.getD j undef)) (j : Nat) :
  VR μ ((as ++ bs).getD j undef) ((as' ++ bs').getD j undef) := by
 rw [List.getD_eq_getElem?_getD, List.getD_eq_getElem?_getD]
 by_cases h : j < as.length
 ·rw [List.getElem?_append_left h, List.getElem?_append_left (by omega), ← List.getD_eq_getElem?_getD, ← List.getD_eq_getElem?_getD]; exact ha j
 ·rw [List.getElem?_append_right (by omega), List.getElem?_append_right (by omega), ← hl, ← List.getD_eq_getElem?_getD, ← List.getD_eq_getElem?_getD]; exact hb _

theorem VR.func_inv {f : FuncId} {first cap : Array Value} {v : Value} (h : VR μ (.func (.func f) first cap) v) : first = #[] ∧ ∃ cap', v = .func (.func f) #[] cap' ∧ cap.size = cap'.size ∧ ∀ j, VR0 μ (cap.getD j .nilFunc) (cap'.getD j .nilFunc) := by
 cases h with
 | one h => cases h with
  | func hs h => exact ⟨rfl, _, rfl, hs, h⟩

theorem op_sim (hp : q7i P = true) {call : q0l} {o : Oper} {σ : Env} {a : Act} {v : Value} {H' : Heap} (h : HR base lk μ H w) (he : OpR μ σ a o.op) (hi : iop P call lk o.op σ H = some (v, H')) :
  Did P base lk μ call o a H w v H' := by
 obtain ⟨dst, op, type, pos, after, guard⟩ := o
 simp only at he hi
 unfold iop at hi
 split at hi
 ·-- move
  simp only [Option.some.injEq, Prod.mk.injEq] at hi
  obtain ⟨rfl, rfl⟩ := hi
  exact q1r h (he _ (by simp [Op.operands])) rfl
 ·-- assign
  simp only [Option.some.injEq, Prod.mk.injEq] at hi
  obtain ⟨rfl, rfl⟩ := hi
  exact q1r h (he _ (by simp [Op.operands])) rfl
 ·-- pick
  rename_i c x y
  have hc := he c (by simp [Op.operands])
  have hx := he x (by simp [Op.operands])
  have hy := he y (by simp [Op.operands])
  split at hi
  ·rename_i t ht
   simp only [Option.some.injEq, Prod.mk.injEq] at hi
   obtain ⟨rfl, rfl⟩ := hi
   rw [ht] at hc
   have := hc.bool_inv
   cases t
   ·exact q1r (v' := a.eval y) h hy (by simp [execOp, this, asBool])
   ·exact q1r (v' := a.eval x) h hx (by simp [execOp, this, asBool])
  ·simp at hi
 ·-- alloc
  rename_i t
  split at hi
  ·rename_i zs n k hz hn hk
   split at hi
   ·simp only [Option.some.injEq, inew, Prod.mk.injEq] at hi
    obtain ⟨rfl, rfl⟩ := hi
    obtain ⟨z, hz1, hz2, hz3⟩ := q5x (P := P) (w := w) μ hz
    obtain ⟨μ', h1, h2, h3, h4, h5⟩ := new_sim (P := P) h (t := t) hz3 k
    refine .inl ⟨_, _, μ', .inl ?_, h2, h3, h4, h5⟩
    simp only [execOp, Instr.alloc, Sem.run_bind, hz1, Result.andThen_ok, h1, Sem.run_pure]
   ·simp at hi
  ·simp at hi
 ·-- box
  rename_i t x
  have hx := he x (by simp [Op.operands])
  split at hi
  ·rename_i cs n k hc hn hk
   split at hi
   ·simp only [Option.some.injEq, inew, Prod.mk.injEq] at hi
    obtain ⟨rfl, rfl⟩ := hi
    obtain ⟨μ', h1, h2, h3, h4, h5⟩ := new_sim (P := P) h (t := t) (w2z hx hc) k
    refine .inl ⟨_, _, μ', .inl ?_, h2, h3, h4, h5⟩
    simp only [execOp, Instr.box, Sem.run_bind, Result.andThen_ok, h1, Sem.run_pure]
   ·simp at hi
  ·simp at hi
 ·-- build
  rename_i t parts
  obtain ⟨u, hu, hv⟩ := Option.map_eq_some_iff.1 hi
  simp only [Prod.mk.injEq] at hv
  obtain ⟨rfl, rfl⟩ := hv
  obtain ⟨v', h1, h2⟩ := build_sim (P := P) (w := w) (w1k parts.toList (fun x hx => he x (by simpa [Op.operands] using hx))) hu
  refine q1r h h2 ?_
  have : (parts.map fun (i, x) => (i, a.eval x)) = (parts.toList.map fun (i, x) => (i, a.eval x)).toArray := by rw [← Array.toList_map, Array.toArray_toList]
  simp only [execOp, this, Sem.run_bind, h1, Result.andThen_ok, Sem.run_pure]
 ·-- buildSlice
  rename_i t len parts
  obtain ⟨v', w', μ', h1, h2, h3, h4, h5, _⟩ := q9w (P := P) h (w1k parts.toList (fun x hx => he x (by simpa [Op.operands] using hx))) hi
  refine .inl ⟨v', w', μ', .inl ?_, h2, h3, h4, h5⟩
  have : (parts.map fun (i, x) => (i, a.eval x)) = (parts.toList.map fun (i, x) => (i, a.eval x)).toArray := by rw [← Array.toList_map, Array.toArray_toList]
  simp only [execOp, this, Sem.run_bind, h1, Result.andThen_ok, Sem.run_pure]
 ·-- load
  rename_i t x
  obtain ⟨u, hu, hv⟩ := Option.map_eq_some_iff.1 hi
  simp only [Prod.mk.injEq] at hv
  obtain ⟨rfl, rfl⟩ := hv
  obtain ⟨v', h1, h2⟩ := load_sim (P := P) h (he x (by simp [Op.operands])) hu
  exact q1r h h2 (by simp only [execOp, Sem.run_bind, h1, Result.andThen_ok, Sem.run_pure])
 ·-- store
  rename_i t x y
  obtain ⟨u, hu, hv⟩ := Option.map_eq_some_iff.1 hi
  simp only [Prod.mk.injEq] at hv
  obtain ⟨rfl, rfl⟩ := hv
  obtain ⟨w', h1, h2, h3⟩ := store_sim (P := P) h (he x (by simp [Op.operands])) (he y (by simp [Op.operands])) hu
  refine .inl ⟨undef, w', μ, .inr ⟨?_, rfl⟩, Le.refl _ μ, h2, h3, q3t μ⟩
  simp only [execOp, Sem.run_bind, h1, Result.andThen_ok, Sem.run_pure]
 ·-- nilCheck
  rename_i x
  have hx := he x (by simp [Op.operands])
  split at hi
  ·rename_i ad had
   simp only [Option.some.injEq, Prod.mk.injEq] at hi
   obtain ⟨rfl, rfl⟩ := hi
   rw [had] at hx
   generalize hax : a.eval x = ax at hx
   have hx' := hx
   cases hx with
   | one hx => cases hx with
    | ptr hb => exact q1r h hx' (by simp [execOp, hax])
  ·rename_i f first cap hf
   simp only [Option.some.injEq, Prod.mk.injEq] at hi
   obtain ⟨rfl, rfl⟩ := hi
   rw [hf] at hx
   obtain ⟨rfl, cap', hcap, hs, hj⟩ := hx.func_inv
   exact q1r h (.one (.func hs hj)) (by simp [execOp, hcap])
  ·simp at hi
 ·-- binOp
  rename_i op t x y t'
  obtain ⟨u, hu, hv⟩ := Option.map_eq_some_iff.1 hi
  simp only [Prod.mk.injEq] at hv
  obtain ⟨rfl, rfl⟩ := hv
  obtain ⟨v', h1, h2⟩ := bin_sim (P := P) (w := w) x y (he x (by simp [Op.operands])) (he y (by simp [Op.operands])) hu
  refine q1r h h2 ?_
  simp only [execOp]
  rw [Sem.run_bind, h1]; rfl
 ·-- unOp
  rename_i op t x
  obtain ⟨u, hu, hv⟩ := Option.map_eq_some_iff.1 hi
  simp only [Prod.mk.injEq] at hv
  obtain ⟨rfl, rfl⟩ := hv
  obtain ⟨v', h1, h2⟩ := un_sim (P := P) (w := w) (he x (by simp [Op.operands])) hu
  refine q1r h h2 ?_
  simp only [execOp]
  rw [Sem.run_bind, h1]; rfl
 ·-- convert
  rename_i s d x
  obtain ⟨v', w', μ', h1, h2, h3, h4, h5⟩ := convert_sim (P := P) h (he x (by simp [Op.operands])) hi
  refine .inl ⟨v', w', μ', .inl ?_, h2, h3, h4, h5⟩
  simp only [execOp]
  rw [Sem.run_bind, h1]; rfl
 ·-- makeFunc
  rename_i f first cap
  split at hi
  ·rename_i hf0
   obtain ⟨hf0, hall⟩ := hf0
   simp only [Option.some.injEq, Prod.mk.injEq] at hi
   obtain ⟨rfl, rfl⟩ := hi
   have e0 : first = #[] := Array.eq_empty_of_size_eq_zero hf0
   subst e0
   refine q1r (v' := .func (.func f) #[] (cap.map a.eval)) h (.one (.func (by simp) fun j => ?_)) (by simp [execOp, Instr.makeFunc])
   by_cases hj : j < cap.size
   ·have hm : cap[j] ∈ cap := Array.getElem_mem hj
    have hv := he cap[j] (by simp [Op.operands])
    have hc : q9q (ev σ cap[j]) = true := by
     rw [List.all_eq_true] at hall
     exact hall _ (List.mem_map.2 ⟨cap[j], by simpa using hm, rfl⟩)
    have := hv.zero_of (by intro e; rw [e] at hc; simp [q9q, Gx.junk] at hc) (by intro cs e; rw [e] at hc; simp [q9q] at hc) (by intro cs e; rw [e] at hc; simp [q9q] at hc)
    simpa [hj] using this
   ·rw [Array.getD_eq_getD_getElem?, Array.getD_eq_getD_getElem?, Array.getElem?_eq_none (by simp; omega), Array.getElem?_eq_none (by simp; omega)]
    exact .nilf
  ·simp at hi
 ·-- makeSlice
  rename_i t l c
  obtain ⟨v', w', μ', h1, h2, h3, h4, h5⟩ := makeSlice_sim (P := P) h (he l (by simp [Op.operands])) (he c (by simp [Op.operands])) hi
  refine .inl ⟨v', w', μ', .inl ?_, h2, h3, h4, h5⟩
  simp only [execOp]
  rw [Sem.run_bind, h1]; rfl
 ·-- slice
  rename_i t x lo hi' mx
  obtain ⟨u, hu, hv⟩ := Option.map_eq_some_iff.1 hi
  simp only [Prod.mk.injEq] at hv
  obtain ⟨rfl, rfl⟩ := hv
  obtain ⟨v', h1, h2⟩ := slice_sim (P := P) h (he x (by simp [Op.operands])) (opt_rel (x := lo) (fun y hy => he y (by subst hy; simp [Op.operands]))) (opt_rel (x := hi') (fun y hy => he y (by subst hy; simp [Op.operands])))
   (opt_rel (x := mx) (fun y hy => he y (by subst hy; simp [Op.operands]))) hu
  refine q1r h h2 ?_
  simp only [execOp]
  rw [Sem.run_bind, h1]; rfl
 ·-- fieldAddr
  rename_i t x i
  obtain ⟨u, hu, hv⟩ := Option.map_eq_some_iff.1 hi
  simp only [Prod.mk.injEq] at hv
  obtain ⟨rfl, rfl⟩ := hv
  obtain ⟨v', h1, h2⟩ := w1u (P := P) (w := w) (he x (by simp [Op.operands])) hu
  refine q1r h h2 ?_
  simp only [execOp]
  rw [Sem.run_bind, h1]; rfl
 ·-- field
  rename_i t x i
  obtain ⟨u, hu, hv⟩ := Option.map_eq_some_iff.1 hi
  simp only [Prod.mk.injEq] at hv
  obtain ⟨rfl, rfl⟩ := hv
  obtain ⟨v', h1, h2⟩ := field_sim (P := P) (w := w) (he x (by simp [Op.operands])) hu
  refine q1r h h2 ?_
  simp only [execOp]
  rw [Sem.run_bind, h1]; rfl
 ·-- indexAddr
  rename_i t x ix
  obtain ⟨u, hu, hv⟩ := Option.map_eq_some_iff.1 hi
  simp only [Prod.mk.injEq] at hv
  obtain ⟨rfl, rfl⟩ := hv
  obtain ⟨v', h1, h2⟩ := w1p (P := P) (w := w) (he x (by simp [Op.operands])) (he ix (by simp [Op.operands])) hu
  refine q1r h h2 ?_
  simp only [execOp]
  rw [Sem.run_bind, h1]; rfl
 ·-- index
  rename_i t x ix
  obtain ⟨u, hu, hv⟩ := Option.map_eq_some_iff.1 hi
  simp only [Prod.mk.injEq] at hv
  obtain ⟨rfl, rfl⟩ := hv
  obtain ⟨v', h1, h2⟩ := index_sim (P := P) (w := w) (he x (by simp [Op.operands])) (he ix (by simp [Op.operands])) hu
  refine q1r h h2 ?_
  simp only [execOp]
  rw [Sem.run_bind, h1]; rfl
 ·-- extract
  rename_i x i
  have hx := he x (by simp [Op.operands])
  split at hi
  ·rename_i vs hvs
   obtain ⟨u, hu, hv⟩ := Option.map_eq_some_iff.1 hi
   simp only [Prod.mk.injEq] at hv
   obtain ⟨rfl, rfl⟩ := hv
   rw [hvs] at hx
   generalize hax : a.eval x = ax at hx
   cases hx with
   | one hx => cases hx
   | tuple hs hj =>
    rename_i ds
    have hlt : i < vs.size := (Array.getElem?_eq_some_iff.1 hu).1
    have := hj i
    rw [Array.getD_eq_getD_getElem?, hu, Array.getD_eq_getD_getElem?, Array.getElem?_eq_getElem (by omega)] at this
    refine q1r (v' := ds[i]) h this ?_
    simp only [execOp, hax, Instr.extract, Array.getElem?_eq_getElem (show i < ds.size by omega)]; rfl
  ·simp at hi
 ·-- call
  rename_i c
  have hargs : ∀ x, x ∈ c.args.toList → VR μ (ev σ x) (a.eval x) := fun x hx => he x (by simp [Op.operands, Call.operands]; exact .inr (by simpa using hx))
  split at hi
  ·-- of a function
   rename_i f hf
   have hfv := he f (by simp [Op.operands, Call.operands, hf])
   split at hi
   ·rename_i g first cap hg
    rw [hg] at hfv
    obtain ⟨rfl, cap', hcap, hcs, hcj⟩ := hfv.func_inv
    simp only [List.size_toArray, List.length_nil, if_true] at hi
    have hres : (execOp a.eval ⟨dst, .call c, type, pos, after, guard⟩).run P w = (callFunc g ((c.args.map a.eval) ++ cap')).run P w := by
     simp only [execOp, resolve, hf, hcap, Deferred.ofValue, Sem.run_bind, Sem.run_pure, Result.andThen_ok, invoke]
     simp
    have hl : (c.args.toList.map (ev σ) ++ cap.toList).length = ((c.args.map a.eval) ++ cap').size := by simp [hcs]
    have hj : ∀ j, VR μ ((c.args.toList.map (ev σ) ++ cap.toList).getD j undef) (((c.args.map a.eval) ++ cap').getD j undef) := by
     intro j
     have h1 := app_rel (as := c.args.toList.map (ev σ)) (as' := c.args.toList.map a.eval) (bs := cap.toList) (bs' := cap'.toList) (by simp) (list_rel _ hargs) (fun j => by
      have := hcj j
      by_cases hjc : j < cap.size
      ·have hjc' : j < cap'.size := by omega
       simp [hjc, hjc'] at this ⊢
       exact .one this
      ·have hjc' : ¬ j < cap'.size := by omega
       simp [hjc, hjc']
       exact q3t μ) j
     have e : ((c.args.map a.eval) ++ cap').getD j undef = (c.args.toList.map a.eval ++ cap'.toList).getD j undef := by
      rw [Array.getD_eq_getD_getElem?, List.getD_eq_getElem?_getD]
      congr 1
      rw [← Array.getElem?_toList]
      simp
     rw [e]; exact h1
    unfold q3g at hi
    split at hi
    ·simp at hi
    ·rename_i fn hfn
     have hwf : nmFunc fn = true := by
      unfold q7i at hp
      rw [List.all_eq_true] at hp
      exact hp fn (by have := Array.mem_of_getElem? hfn; simpa using this)
     have hname : fn.name ≠ "runtime.NumGoroutine" := by
      unfold nmFunc at hwf
      simp at hwf
      exact hwf
     split at hi
     ·rename_i hb
      refine .inr ⟨g, fn, _, _, hfn, hb, ?_, hi, hl, hj⟩
      rw [hres]
      obtain ⟨body, hbody⟩ := Option.isSome_iff_exists.1 hb
      simp [callFunc, hfn, hname, hbody]
     ·rename_i hb
      split at hi
      ·simp at hi
      ·rename_i ho
       obtain ⟨u, hu, hv⟩ := Option.map_eq_some_iff.1 hi
       simp only [Prod.mk.injEq] at hv
       obtain ⟨rfl, rfl⟩ := hv
       obtain ⟨h1, h2⟩ := extern_sim (w := w) hfn (by simpa using hb) (by simpa using ho) hl hj hu
       exact q1r h h2 (by rw [hres]; exact h1)
   ·simp at hi
  ·-- len
   rename_i hc
   split at hi
   ·rename_i x t hx ht
    obtain ⟨u, hu, hv⟩ := Option.map_eq_some_iff.1 hi
    simp only [Prod.mk.injEq] at hv
    obtain ⟨rfl, rfl⟩ := hv
    obtain ⟨v', h1, h2⟩ := len_sim (P := P) (w := w) (ty := type) (hargs x (by rw [hx]; simp)) hu
    refine q1r h h2 ?_
    have e1 : c.args = #[x] := by rw [← Array.toArray_toList (xs := c.args), hx]
    have e2 : c.argTypes = #[t] := by rw [← Array.toArray_toList (xs := c.argTypes), ht]
    simp only [execOp, resolve, hc, Sem.run_bind, Sem.run_pure, Result.andThen_ok, invoke, builtin, e1, e2]
    simp only [List.map_toArray, List.map_cons, List.map_nil, h1, Result.andThen_ok, Sem.run_pure]
   ·simp at hi
  ·-- cap
   rename_i hc
   split at hi
   ·rename_i x t hx ht
    obtain ⟨u, hu, hv⟩ := Option.map_eq_some_iff.1 hi
    simp only [Prod.mk.injEq] at hv
    obtain ⟨rfl, rfl⟩ := hv
    obtain ⟨v', h1, h2⟩ := cap_sim (P := P) (w := w) (ty := type) (hargs x (by rw [hx]; simp)) hu
    refine q1r h h2 ?_
    have e1 : c.args = #[x] := by rw [← Array.toArray_toList (xs := c.args), hx]
    have e2 : c.argTypes = #[t] := by rw [← Array.toArray_toList (xs := c.argTypes), ht]
    simp only [execOp, resolve, hc, Sem.run_bind, Sem.run_pure, Result.andThen_ok, invoke, builtin, e1, e2]
    simp only [List.map_toArray, List.map_cons, List.map_nil, h1, Result.andThen_ok, Sem.run_pure]
   ·simp at hi
  ·-- append
   rename_i hc
   split at hi
   ·rename_i s x t t2 hx ht
    obtain ⟨v', w', μ', h1, h2, h3, h4, h5⟩ := append_sim (P := P) (ty := type) h (hargs s (by rw [hx]; simp)) (hargs x (by rw [hx]; simp)) hi
    refine .inl ⟨v', w', μ', .inl ?_, h2, h3, h4, h5⟩
    have e1 : c.args = #[s, x] := by rw [← Array.toArray_toList (xs := c.args), hx]
    have e2 : c.argTypes = #[t, t2] := by rw [← Array.toArray_toList (xs := c.argTypes), ht]
    simp only [execOp, resolve, hc, Sem.run_bind, Sem.run_pure, Result.andThen_ok, invoke, builtin, e1, e2]
    simp only [List.map_toArray, List.map_cons, List.map_nil, h1, Result.andThen_ok, Sem.run_pure]
   ·simp at hi
  ·-- max
   rename_i hc
   split at hi
   ·rename_i x r hx
    obtain ⟨u, hu, hv⟩ := Option.map_eq_some_iff.1 hi
    simp only [Prod.mk.injEq] at hv
    obtain ⟨rfl, rfl⟩ := hv
    obtain ⟨v', h1, h2⟩ := fold_sim (P := P) (w := w) (g := Builtin.max2) (fun x y x' y' v => max2_sim) (r.map (ev σ)) (r.map a.eval) _ (a.eval x) u (by simp) (list_rel r (fun y hy => hargs y (by rw [hx]; simp [hy]))) (hargs x (by rw [hx]; simp)) hu
    refine q1r h h2 ?_
    have e1 : c.args = (x :: r).toArray := by rw [← Array.toArray_toList (xs := c.args), hx]
    simp only [execOp, resolve, hc, Sem.run_bind, Sem.run_pure, Result.andThen_ok, invoke, builtin, e1]
    simp only [Builtin.max_, List.map_toArray, List.map_cons, h1, Result.andThen_ok, Sem.run_pure]
   ·simp at hi
  ·-- min
   rename_i hc
   split at hi
   ·rename_i x r hx
    obtain ⟨u, hu, hv⟩ := Option.map_eq_some_iff.1 hi
    simp only [Prod.mk.injEq] at hv
    obtain ⟨rfl, rfl⟩ := hv
    obtain ⟨v', h1, h2⟩ := fold_sim (P := P) (w := w) (g := Builtin.min2) (fun x y x' y' v => min2_sim) (r.map (ev σ)) (r.map a.eval) _ (a.eval x) u (by simp) (list_rel r (fun y hy => hargs y (by rw [hx]; simp [hy]))) (hargs x (by rw [hx]; simp)) hu
    refine q1r h h2 ?_
    have e1 : c.args = (x :: r).toArray := by rw [← Array.toArray_toList (xs := c.args), hx]
    simp only [execOp, resolve, hc, Sem.run_bind, Sem.run_pure, Result.andThen_ok, invoke, builtin, e1]
    simp only [Builtin.min_, List.map_toArray, List.map_cons, h1, Result.andThen_ok, Sem.run_pure]
   ·simp at hi
  ·simp at hi
 ·simp at hi
end
end Gx
end
