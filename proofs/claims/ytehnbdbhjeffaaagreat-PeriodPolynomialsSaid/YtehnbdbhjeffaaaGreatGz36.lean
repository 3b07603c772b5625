/- From the mini interpreter to a law's row. -/
import Derived.Test.YtehnbdbhjeffaaaGreatGz35
import Derived.Carry
import Derived.ChangeOld
set_option linter.all false
section
set_option autoImplicit false
namespace Gx
open Go Go.RowKit

def WV (P : Program) (H : Heap) (n : Nat) (t : TypeId) (v : Value) : Prop :=
 (tagg P t = some true ∧ ∃ us, v = .agg us ∧ WT P H n t us.toList) ∨ (tagg P t = some false ∧ WT P H n t [v])

def WVs (P : Program) (H : Heap) (n : Nat) : List TypeId → List Value → Prop
 | [], [] => True
 | t :: ts, v :: vs => WV P H n t v ∧ WVs P H n ts vs
 | _, _ => False

section
variable {P : Program} {W : World}

theorem WV.grow {H N : Heap} {n : Nat} {t : TypeId} {v : Value} (h : WV P H n t v) : WV P (H ++ N) n t v := by
 rcases h with ⟨h1, us, h2, h3⟩ | ⟨h1, h2⟩
 ·exact .inl ⟨h1, us, h2, h3.grow⟩
 ·exact .inr ⟨h1, h2.grow⟩

theorem okWide_form {base n : Nat} {t : TypeId} {v : Value} (h : Value.okWide P W .any base t v) (hi : imp P n t = true) :
  (tagg P t = some true ∧ ∃ cs, v = .agg cs) ∨ (tagg P t = some false ∧ v.cells = #[v]) := by
 cases n with
 | zero => simp [imp] at hi
 | succ n =>
  unfold imp at hi
  unfold Value.okWide at h
  split at hi
  ·rename_i hu
   rw [hu] at h
   refine .inr ⟨by unfold tagg; rw [hu], ?_⟩
   simp only [Cell.okWide, Cell.ok, hu] at h
   split at h <;> simp_all [Value.cells]
  ·rename_i k hu
   rw [hu] at h
   refine .inr ⟨by unfold tagg; rw [hu], ?_⟩
   simp only [Cell.okWide, Cell.ok, hu] at h
   split at h <;> simp_all [Value.cells]
  ·rename_i hu
   rw [hu] at h
   refine .inr ⟨by unfold tagg; rw [hu], ?_⟩
   simp only [Cell.okWide, Cell.ok, hu] at h
   split at h <;> simp_all [Value.cells]
  ·rename_i e hu
   rw [hu] at h
   refine .inr ⟨by unfold tagg; rw [hu], ?_⟩
   simp only [Cell.okWide, Cell.ok, hu] at h
   split at h <;> simp_all [Value.cells]
  ·rename_i fs hu
   rw [hu] at h
   obtain ⟨cs, h1, _⟩ := h
   exact .inl ⟨by unfold tagg; rw [hu], cs, h1⟩
  ·simp at hi

theorem import_args {K : Type} (enc : TypeId × Value → K) {base0 : Nat} {n : Nat} : ∀ (ts : List TypeId) (vs : List Value) (ds : List (DataW K)) (ps : List MemPlace), (∀ t ∈ ts, imp P n t = true) → DataW.TrodAll enc P W 0 (fun _ => true) true ts vs ds ps →
  (∀ (j : Nat) (t : TypeId) (v : Value), ts[j]? = some t → vs[j]? = some v → Value.okWide P W .any base0 t v) → ∀ (base : Nat) (μ : Inj) (H : Heap), HR base H.length μ H W →
  ∃ N μ' us, Le H.length μ μ' ∧ HR base (H ++ N).length μ' (H ++ N) W ∧ us.length = vs.length ∧ (∀ j, VR μ' (us.getD j undef) (vs.getD j undef)) ∧ WVs P (H ++ N) n ts us
 | [], [], _, _, _, _, _, base, μ, H, hR => ⟨[], μ, [], Le.refl _ _, by simpa using hR, rfl, fun j => by simpa using q3t μ, trivial⟩
 | [], v :: vs, ds, ps, _, hA, _, _, _, _, _ => by cases ds <;> simp [DataW.TrodAll] at hA
 | t :: ts, [], ds, ps, _, hA, _, _, _, _, _ => by cases ds <;> simp [DataW.TrodAll] at hA
 | t :: ts, v :: vs, [], ps, _, hA, _, _, _, _, _ => by simp [DataW.TrodAll] at hA
 | t :: ts, v :: vs, d :: ds, ps, hi, hA, hv, base, μ, H, hR => by
  obtain ⟨p, q, ⟨fuel, hT⟩, hTs, _⟩ := hA
  obtain ⟨N, μ1, us, h1, h2, h3, h4⟩ := import_ok enc n fuel t _ _ hT (hi t (by simp)) μ H hR
  obtain ⟨N', μ2, us', k1, k2, k3, k4, k5⟩ := import_args enc ts vs ds q (fun t ht => hi t (by simp [ht])) hTs (fun j t v h1 h2 => hv (j + 1) t v (by simpa using h1) (by simpa using h2)) base μ1 (H ++ N) h2
  have hform := okWide_form (hv 0 t v rfl rfl) (hi t (by simp))
  have hval : ∃ u, VR μ1 u v ∧ WV P (H ++ N) n t u := by
   rcases hform with ⟨g1, cs, rfl⟩ | ⟨g1, g2⟩
   ·exact ⟨.agg us.toArray, VR.of_list (by simpa [Value.cells] using h3), .inl ⟨g1, us.toArray, rfl, by simpa using h4⟩⟩
   ·rw [g2] at h3
    have hl := h3.1
    simp at hl
    obtain ⟨u, rfl⟩ := List.length_eq_one_iff.1 hl
    obtain ⟨v', a, b⟩ := h3.2 0 u rfl
    simp at a; subst a
    exact ⟨u, .one b, .inr ⟨g1, h4⟩⟩
  obtain ⟨u, g1, g2⟩ := hval
  refine ⟨N ++ N', μ2, u :: us', h1.trans k1 (by simp), by rw [← List.append_assoc]; exact k2, by simp [k3], fun j => ?_, ?_⟩
  ·cases j with
   | zero => simpa using g1.mono k1
   | succ j => simpa using k4 j
  ·rw [← List.append_assoc]
   exact ⟨g2.grow, k5⟩

theorem law_calls {md : Md} (ho : OrcOk P md) (hp : q7i P = true) (hw : wfMd P md = true) (hm : P.follows .mixedOrders = true) {g : FuncId} {fn : Func} (hmd : md g ≠ 3) (hg : P.funcs[g]? = some fn) {ts : List TypeId} {n : Nat} (hi : ∀ t ∈ ts, imp P n t = true)
  (L : ∀ (H : Heap) (args : List Value), WVs P H n ts args → ∃ fuel H', q1k P md fuel H.length g args H = some (.bool true, H')) {K : Type} {enc : TypeId × Value → K} {base0 : Nat} {args : Array Value} {ds : List (DataW K)} {ps : List MemPlace}
  (hA : DataW.TrodAll enc P W 0 (fun _ => true) true ts args.toList ds ps) (hv : ∀ (j : Nat) (t : TypeId) (v : Value), ts[j]? = some t → args[j]? = some v → Value.okWide P W .any base0 t v) :
  Calls P g args W fun e w' => e = .returned (.bool true) ∧ Go.RowKit.Below W.heap.size W w' := by
 have h0 : HR W.heap.size ([] : Heap).length (fun _ => none) [] W :=
  ⟨fun b i h => by simp at h, fun b i h => by simp at h, fun b i B h => by simp at h, fun b i B h => by simp at h, fun b i B h => by simp at h, fun b i B h => by simp at h, fun b b' i i' B B' _ h => by simp at h, Nat.le_refl _, Nat.le_refl _⟩
 obtain ⟨N, μ, us, _, h2, h3, h4, h5⟩ := import_args enc ts args.toList ds ps hi hA (fun j t v h1 h2 => hv j t v h1 (by simpa using h2)) W.heap.size _ [] h0
 simp only [List.nil_append] at h2 h5
 obtain ⟨fuel, H', hI⟩ := L N us h5
 refine (calls_sim hp ho hw hm fuel W.heap.size N.length μ N W g fn us args (.bool true) H' hmd hg h2 (by simpa using h3) (fun j => ?_) hI).mono ?_
 ·have := h4 j
  simpa [List.getD_eq_getElem?_getD, Array.getD_eq_getD_getElem?] using this
 ·rintro e w' ⟨v', μ', rfl, k1, k2, k3, k4⟩
  exact ⟨by rw [k4.bool_inv], k3.go⟩

theorem args_stay {K : Type} {enc : TypeId × Value → K} (hl : laidOutB P = true) {W' : World} (hb : Go.RowKit.Below W.heap.size W W') : ∀ (ts : List TypeId) (vs : List Value) (ds : List (DataW K)) (ps : List MemPlace), (∀ t ∈ ts, P.readableRec t = true ∧ t < P.types.size) →
  DataW.TrodAll enc P W 0 (fun _ => true) true ts vs ds ps → DataW.TrodAll enc P W' 0 (fun b => decide (b < W.heap.size)) true ts vs ds ps
 | [], [], [], ps, _, h => h
 | [], [], d :: ds, ps, _, h => by simp [DataW.TrodAll] at h
 | [], v :: vs, ds, ps, _, hA => by cases ds <;> simp [DataW.TrodAll] at hA
 | t :: ts, [], ds, ps, _, hA => by cases ds <;> simp [DataW.TrodAll] at hA
 | t :: ts, v :: vs, [], ps, _, hA => by simp [DataW.TrodAll] at hA
 | t :: ts, v :: vs, d :: ds, ps, hr, ⟨p, q, h1, h2, h3⟩ => by
  refine ⟨p, q, ?_, args_stay hl hb ts vs ds q (fun t ht => hr t (by simp [ht])) h2, h3⟩
  have hlt : ∀ x ∈ p, x.block < W.heap.size := by
   obtain ⟨m, hm⟩ := h1
   exact DataW.trod_lt m _ _ _ hm
  exact Go.RowKit.Below.trod hl (hr t (by simp)).1 (hr t (by simp)).2 h1 hb hlt
end
end Gx
end
