/- The mini interpreter's answers are the model's. -/
import Derived.Test.YtehnbdbhjeffaaaGreatGz33
import Derived.Scope
set_option linter.all false
section
set_option autoImplicit false
namespace Gx
open Go Go.RowKit

def Ex.toExit : Ex → Exit
 | .normal => .normal
 | .exit id => .exit id
 | .ret => .ret

theorem w3r (P : Program) (md : Md) (n lk id : Nat) (ops : Array Oper) (draw : Bool) (σ : Env) (H : Heap) :
  q0s P md (n + 1) lk (.region id ops draw) σ H = match iops P (wrap md (q1k P md n)) lk draw ops ops.toList σ H with
   | some (σ', H') => some (.normal, σ', H')
   | none => none := rfl

theorem q2j {P : Program} {call : q0l} (hc : q1a call) {lk : Nat} {draw : Bool} {ops : Array Oper} : ∀ (l : List Oper) (σ : Env) (H : Heap) (σ' : Env) (H' : Heap), iops P call lk draw ops l σ H = some (σ', H') → Stab lk H H'
 | [], σ, H, σ', H', h => by
  simp only [iops, Option.some.injEq, Prod.mk.injEq] at h
  obtain ⟨_, rfl⟩ := h
  exact Stab.refl _ _
 | o :: l, σ, H, σ', H', h => by
  simp only [iops] at h
  split at h
  ·rename_i v H1 hs
   unfold q4g at hs
   split at hs
   ·simp at hs
   ·simp only [Option.some.injEq, Prod.mk.injEq] at hs
    obtain ⟨_, rfl⟩ := hs
    exact q2j hc l _ _ _ _ h
   ·obtain ⟨_, h0, _⟩ := q8e hs
    have h1 := iop_stab hc h0
    have h1' : Stab lk H H1 := by
     refine ⟨h1.1, fun b hb1 hb2 => h1.2 b ?_ hb2⟩
     split <;> omega
    exact h1'.trans (q2j hc l _ _ _ _ h)
  ·simp at h

def ExecStab (P : Program) (md : Md) (n : Nat) : Prop := ∀ (lk : Nat) (c : Code) (σ : Env) (H : Heap) (e : Ex) (σ' : Env) (H' : Heap), q0s P md n lk c σ H = some (e, σ', H') → Stab lk H H'

theorem q8m {P : Program} {md : Md} {n : Nat} (h : ExecStab P md n) : q1a (q1k P md n) := by
 intro lk g args H v H' hc
 unfold q1k at hc
 split at hc
 ·split at hc
  ·split at hc
   ·simp at hc
   ·rename_i he
    split at hc
    ·simp only [Option.some.injEq, Prod.mk.injEq] at hc
     obtain ⟨_, rfl⟩ := hc
     exact h _ _ _ _ _ _ _ he
    ·simp at hc
   ·simp at hc
  ·simp at hc
 ·simp at hc

theorem exec_stab (P : Program) (md : Md) : ∀ (n : Nat), ExecStab P md n
 | 0 => fun lk c σ H e σ' H' h => by simp [q0s] at h
 | n + 1 => fun lk c σ H e σ' H' h => by
  have ih := exec_stab P md n
  cases c with
  | skip => simp only [q0s, Option.some.injEq, Prod.mk.injEq] at h; obtain ⟨_, _, rfl⟩ := h; exact Stab.refl _ _
  | region id ops draw =>
   rw [w3r] at h
   split at h
   ·rename_i hs
    simp only [Option.some.injEq, Prod.mk.injEq] at h
    obtain ⟨_, _, rfl⟩ := h
    exact q2j (wrap_stab (q8m ih)) _ _ _ _ _ hs
   ·simp at h
  | seq a b =>
   simp only [q0s] at h
   split at h
   ·rename_i h1
    exact (ih _ _ _ _ _ _ _ h1).trans (ih _ _ _ _ _ _ _ h)
   ·exact ih _ _ _ _ _ _ _ h
  | cond c a b =>
   simp only [q0s] at h
   split at h
   ·exact ih _ _ _ _ _ _ _ h
   ·simp at h
  | block id a =>
   simp only [q0s] at h
   split at h
   ·rename_i h1
    split at h <;> (simp only [Option.some.injEq, Prod.mk.injEq] at h; obtain ⟨_, _, rfl⟩ := h; exact ih _ _ _ _ _ _ _ h1)
   ·exact ih _ _ _ _ _ _ _ h
  | loop a =>
   simp only [q0s] at h
   split at h
   ·rename_i h1
    exact (ih _ _ _ _ _ _ _ h1).trans (ih _ _ _ _ _ _ _ h)
   ·exact ih _ _ _ _ _ _ _ h
  | exit id => simp only [q0s, Option.some.injEq, Prod.mk.injEq] at h; obtain ⟨_, _, rfl⟩ := h; exact Stab.refl _ _
  | ret => simp only [q0s, Option.some.injEq, Prod.mk.injEq] at h; obtain ⟨_, _, rfl⟩ := h; exact Stab.refl _ _
  | rangeFunc f p a b => simp [q0s] at h
  | scope a => exact ih _ _ _ _ _ _ _ h
  | label l => simp only [q0s, Option.some.injEq, Prod.mk.injEq] at h; obtain ⟨_, _, rfl⟩ := h; exact Stab.refl _ _
  | goto l => simp [q0s] at h
  | refuse s => simp [q0s] at h

section
variable {P : Program} {md : Md}

def LoopWp (ro : Option Nat) (P : Program) (c : Code) (Q : Exit → Act → World → Prop) (a : Act) (w : World) : Prop :=
 ∀ (b : Frame) (k : List Item) (cs : List Frame), b.roundOf = ro → ∃ e a' w', Q e a' w' ∧ ArrivesIn (Machine.fenced P (Fr ro)) P (lone (b.atR a (.code c :: .inLoop c :: k)) cs w) b k cs e a' w'

theorem loop_of {ro : Option Nat} {dp : Nat} {c : Code} {Q : Exit → Act → World → Prop} {a : Act} {w : World} (h : LoopWp ro P c Q a w) : (Code.loop c).wpIn (Fr ro) dp P Q a w := by
 intro b k cs hro hb hr
 obtain ⟨e, a', w', hq, harr⟩ := h b k cs hro
 exact ⟨e, a', w', hq, .of_steps (.one (fenced_calm hb hr rfl) stepR_loop) harr⟩

theorem loop_step {ro : Option Nat} {dp : Nat} {c : Code} {Q : Exit → Act → World → Prop} {a : Act} {w : World} (h : c.wpIn (Fr ro) dp P (Exit.then (LoopWp ro P c Q) Q) a w) : LoopWp ro P c Q a w := by
 intro b k cs hro
 have hb : (Fr ro).fn b.fn := fr_fn ro b.fn
 have hr : (Fr ro).room (cs.length + 1 + dp) := fr_room ro _
 obtain ⟨e, a₁, w₁, hq, harr⟩ := h b (.inLoop c :: k) cs hro hb hr
 cases e with
 | normal =>
  obtain ⟨e₂, a₂, w₂, hq₂, harr₂⟩ := hq b k cs hro
  exact ⟨e₂, a₂, w₂, hq₂, .of_steps (StepsIn.trans harr (.one (fenced_calm hb hr rfl) stepR_inLoop)) harr₂⟩
 | exit id => exact ⟨_, a₁, w₁, hq, .pass (x := .inLoop c) rfl (fun _ _ => .inl (by simp)) harr⟩
 | goto l => exact ⟨_, a₁, w₁, hq, .pass (x := .inLoop c) rfl (fun _ _ => .inl (by simp)) harr⟩
 | ret => exact ⟨_, a₁, w₁, hq, .pass (x := .inLoop c) rfl (fun _ _ => .inl (by simp)) harr⟩
 | panic ch => exact ⟨_, a₁, w₁, hq, .pass (x := .inLoop c) rfl (fun _ _ => .inl (by simp)) harr⟩
 | outgrown => exact ⟨_, a₁, w₁, hq, .pass (x := .inLoop c) rfl (fun _ _ => .inl (by simp)) harr⟩

theorem q4c {b : Frame} {a : Act} {k : List Item} {cs : List Frame} {w : World} {c : Code} : step P (lone (b.atR a (.code (.scope c) :: k)) cs w) = .next (lone (b.atR a (.code c :: .inScope c :: k)) cs w) :=
 step_lone_go (by simp [stepG, stepG.exec, Frame.atR])
theorem stepR_inScope {b : Frame} {a : Act} {k : List Item} {cs : List Frame} {w : World} {c : Code} : step P (lone (b.atR a (.inScope c :: k)) cs w) = .next (lone (b.atR a k) cs w) :=
 step_lone_go (by simp [stepG, stepG.exec, Frame.atR])
theorem wpIn_scope {F : Fence} {n : Nat} {c : Code} {Q : Exit → Act → World → Prop} {a : Act} {w : World} (h : c.wpIn F n P (Exit.noGoto Q) a w) : (Code.scope c).wpIn F n P Q a w := by
 intro b k cs hro hb hr
 have h0 : (lone (b.atR a (.code (.scope c) :: k)) cs w).fenced P F := fenced_calm hb hr rfl
 obtain ⟨e, a₁, w₁, hq, harr⟩ := h b (.inScope c :: k) cs hro hb hr
 cases e with
 | normal => exact ⟨.normal, a₁, w₁, hq, .head h0 q4c (StepsIn.trans harr (.one (fenced_calm hb hr rfl) stepR_inScope))⟩
 | exit id => exact ⟨.exit id, a₁, w₁, hq, fun k' hk => .head h0 q4c (harr.1 k' (by simp [exitTo, hk])), fun hr' hk => let ⟨k₁, h1, h2⟩ := harr.2 hr' (by simp [exitTo, hk]); ⟨k₁, h1, .head h0 q4c h2⟩⟩
 | goto l => exact hq.elim
 | ret => exact ⟨_, a₁, w₁, hq, .of_steps (.one h0 q4c) harr⟩
 | panic ch => exact ⟨_, a₁, w₁, hq, .of_steps (.one h0 q4c) harr⟩
 | outgrown => exact ⟨_, a₁, w₁, hq, .of_steps (.one h0 q4c) harr⟩

def After (base lk nt : Nat) (Q : Exit → Act → World → Prop) (μ : Inj) (H : Heap) (a : Act) (w : World) (ex : Ex) (σ' : Env) (H' : Heap) : Prop :=
 ∀ a' w' μ', Le H.length μ μ' → HR base lk μ' H' w' → Below base w w' → ER μ' σ' a'.tmps → a'.tmps.size = a.tmps.size → a'.defers = a.defers → Q ex.toExit a' w'

def ExecOk (P : Program) (md : Md) (n : Nat) : Prop :=
 ∀ (ro : Option Nat) (dp base lk nt : Nat) (c : Code) (σ : Env) (H : Heap) (ex : Ex) (σ' : Env) (H' : Heap) (μ : Inj) (a : Act) (w : World) (Q : Exit → Act → World → Prop), q5g nt c = true → q0s P md n lk c σ H = some (ex, σ', H') → HR base lk μ H w → ER μ σ a.tmps → nt ≤ a.tmps.size →
  After base lk nt Q μ H a w ex σ' H' → c.wpIn (Fr ro) dp P Q a w ∧ ∀ c', c = .loop c' → LoopWp ro P c' Q a w

theorem res_sim {base lk : Nat} {μ : Inj} {H : Heap} {w : World} (h : HR base lk μ H w) {σ : Env} {a : Act} (he : ER μ σ a.tmps) {fn : Func} {v : Value} (hr : ires P fn σ H = some v) :
  ∃ v', (results fn a.tmps).run P w = .ok v' w ∧ VR μ v v' := by
 let one : ResultVar → Sem Value := fun
  | .tmp t => pure (a.tmps.getD t undef)
  | .cell x t => do loadVar t (← asAddr (a.tmps.getD x undef))
 have h1 : ∀ x u, ires1 P σ H x = some u → ∃ u', (one x).run P w = .ok u' w ∧ VR μ u u' := by
  intro x u hu
  cases x with
  | tmp t =>
   simp only [ires1, Option.some.injEq] at hu; subst hu
   exact ⟨_, rfl, he t⟩
  | cell x t =>
   simp only [ires1] at hu
   have hx := he x
   obtain ⟨u', g1, g2⟩ := load_sim (P := P) h hx hu
   refine ⟨u', ?_, g2⟩
   unfold q2n at hu
   split at hu
   ·rename_i b o hb
    rw [hb] at hx
    obtain ⟨i, _, hi⟩ := hx.ptr_inv
    simp only [one]
    rw [hi] at g1 ⊢
    exact g1
   ·simp at hu
 have hl : ∀ (l : List ResultVar) (us : List Value), iresL P σ H l = some us → ∃ us', (l.mapM one).run P w = .ok us' w ∧ us.length = us'.length ∧ us.length = l.length ∧ ∀ j, VR μ (us.getD j .nilFunc) (us'.getD j .nilFunc) := by
  intro l
  induction l with
  | nil => intro us hu; simp [iresL] at hu; subst hu; exact ⟨[], rfl, rfl, rfl, fun j => .one (by simpa using VR0.nilf)⟩
  | cons x l ih =>
   intro us hu
   simp only [iresL] at hu
   split at hu
   ·rename_i u us0 hx hm
    injection hu with hu; subst hu
    obtain ⟨u', g1, g2⟩ := h1 x u hx
    obtain ⟨us', k1, k2, k4, k3⟩ := ih us0 hm
    refine ⟨u' :: us', ?_, by simp [k2], by simp [k4], fun j => ?_⟩
    ·rw [List.mapM_cons, Sem.run_bind, g1]
     simp only [Result.andThen_ok, Sem.run_bind, k1, Sem.run_pure]
    ·cases j with
     | zero => simpa using g2
     | succ j => simpa using k3 j
   ·simp at hu
 have hres : ∀ us', (fn.results.toList.mapM one).run P w = .ok us' w → (results fn a.tmps).run P w = .ok (if h : us'.toArray.size = 1 then us'.toArray[0] else .tuple us'.toArray) w := by
  intro us' hu
  have e : results fn a.tmps = (fn.results.mapM one >>= fun vs => pure (if h : vs.size = 1 then vs[0] else .tuple vs)) := by
   unfold results
   congr 1
  rw [e, Sem.run_bind, Array.mapM_eq_mapM_toList, Sem.run_map, hu]
  rfl
 unfold ires at hr
 split at hr
 ·rename_i x hx
  obtain ⟨u', g1, g2⟩ := h1 x v hr
  refine ⟨u', ?_, g2⟩
  have := hres [u'] (by rw [hx, List.mapM_cons, Sem.run_bind, g1]; simp)
  simpa using this
 ·rename_i hne
  cases hm : iresL P σ H fn.results.toList with
  | none => rw [hm] at hr; simp at hr
  | some us =>
   rw [hm] at hr
   simp at hr; subst hr
   obtain ⟨us', k1, k2, k4, k3⟩ := hl _ _ hm
   refine ⟨.tuple us'.toArray, ?_, ?_⟩
   ·rw [hres us' k1]
    have : us'.toArray.size ≠ 1 := by
     intro hsz
     simp at hsz
     have h1' : fn.results.toList.length = 1 := by omega
     obtain ⟨x, hx⟩ := List.length_eq_one_iff.1 h1'
     exact hne x hx
    rw [dif_neg this]
   ·refine .tuple (by simp [k2]) fun j => ?_
    have := k3 j
    simpa using this

theorem args_rel {μ : Inj} {args : List Value} {args' : Array Value} (hl : args.length = args'.size) (h : ∀ j, VR μ (args.getD j undef) (args'.getD j undef)) (n : Nat) : ER μ (q4j args) (args' ++ Array.replicate n undef) := by
 intro t
 have := h t
 unfold q4j
 rw [Array.getD_eq_getD_getElem?]
 by_cases ht : t < args'.size
 ·rw [Array.getElem?_append_left ht, ← Array.getD_eq_getD_getElem?]; exact this
 ·rw [Array.getElem?_append_right (by omega), Array.getElem?_replicate]
  rw [List.getD_eq_getElem?_getD, List.getElem?_eq_none (by omega)]
  split <;> exact q3t μ

theorem call_ok (hw : wfMd P md = true) {n : Nat} (ih : ExecOk P md n) : w4p P md (q1k P md n) := by
 intro base lk μ H w g fn args args' v H' h3 hg h hl ha hc
 unfold q1k at hc
 rw [hg] at hc
 simp only at hc
 split at hc
 ·rename_i body hbody
  have hwf := wfMd_body hw hg h3
  unfold wfBody at hwf
  rw [hbody] at hwf
  simp only at hwf
  split at hc
  ·simp at hc
  ·rename_i ex σ' H1 hne he
   split at hc
   ·rename_i u hu
    simp only [Option.some.injEq, Prod.mk.injEq] at hc
    obtain ⟨rfl, rfl⟩ := hc
    refine calls_of_wp hg hbody ((wpIn_wide (n := 0)).1 ?_)
    refine (ih none 0 base lk fn.ntmps body (q4j args) H ex σ' H1 μ _ w _ hwf he h (args_rel hl ha _) (by simp; omega) (fun a' w' μ' h1 h2 h3 h4 h5 h6 => ?_)).1
    obtain ⟨v', g1, g2⟩ := res_sim h2 h4 hu
    have hfin : a'.defers = [] ∧ ∃ v, (results fn a'.tmps).run P w' = .ok v w' ∧ ∃ v'_1 μ', (Ending.returned v) = .returned v'_1 ∧ Le H.length μ μ' ∧ HR base lk μ' H1 w' ∧ Below base w w' ∧ VR μ' u v'_1 :=
     ⟨by rw [h6], v', g1, v', μ', rfl, h1, h2, h3, g2⟩
    cases ex with
    | normal => exact hfin
    | ret => exact hfin
    | exit id => exact (hne id rfl).elim
   ·simp at hc
  ·simp at hc
 ·simp at hc

theorem exec_ok (hp : q7i P = true) (ho : OrcOk P md) (hw : wfMd P md = true) (hm : P.follows .mixedOrders = true) : ∀ (n : Nat), ExecOk P md n
 | 0 => fun ro dp base lk nt c σ H ex σ' H' μ a w Q hwf h => by simp [q0s] at h
 | n + 1 => fun ro dp base lk nt c σ H ex σ' H' μ a w Q hwf h hR hE hn hq => by
  have ih := exec_ok hp ho hw hm n
  have ist := exec_stab P md n
  cases c with
  | skip =>
   simp only [q0s, Option.some.injEq, Prod.mk.injEq] at h
   obtain ⟨rfl, rfl, rfl⟩ := h
   exact ⟨wpIn_skip (hq a w μ (Le.refl _ _) hR (Below.refl _ _) hE rfl rfl), fun c' hc => by simp at hc⟩
  | region id ops draw =>
   refine ⟨?_, fun c' hc => by simp at hc⟩
   rw [w3r] at h
   simp only [q5g, Bool.and_eq_true] at hwf
   split at h
   ·rename_i σ1 H1 hs
    simp only [Option.some.injEq, Prod.mk.injEq] at h
    obtain ⟨rfl, rfl, rfl⟩ := h
    cases draw with
    | false =>
     refine wpIn_region ?_
     rw [List.range_eq_range']
     exact ops_sim hp (wrap_ok ho (q8m ist) (call_ok hw ih)) (wrap_stab (q8m ist)) hwf.1 Q ops.toList 0 ops.size rfl (by omega) σ H μ a w hR hE hn hs hq
    | true =>
     exact draw_sim hp hm (wrap_ok ho (q8m ist) (call_ok hw ih)) (wrap_stab (q8m ist)) (by simpa using hwf.2) hwf.1 hR hE hn hs hq
   ·simp at h
  | seq x y =>
   refine ⟨?_, fun c' hc => by simp at hc⟩
   simp only [q5g, Bool.and_eq_true] at hwf
   simp only [q0s] at h
   refine wpIn_seq ?_
   split at h
   ·rename_i σ1 H1 h1
    refine (ih ro dp base lk nt x σ H .normal σ1 H1 μ a w _ hwf.1 h1 hR hE hn (fun a1 w1 μ1 k1 k2 k3 k4 k5 k6 => ?_)).1
    refine (ih ro dp base lk nt y σ1 H1 ex σ' H' μ1 a1 w1 Q hwf.2 h k2 k4 (by omega) (fun a2 w2 μ2 l1 l2 l3 l4 l5 l6 => ?_)).1
    exact hq a2 w2 μ2 (k1.trans l1 (ist _ _ _ _ _ _ _ h1).1) l2 (k3.trans l3) l4 (by omega) (by rw [l6, k6])
   ·rename_i hne
    refine (ih ro dp base lk nt x σ H ex σ' H' μ a w _ hwf.1 h hR hE hn (fun a1 w1 μ1 k1 k2 k3 k4 k5 k6 => ?_)).1
    have := hq a1 w1 μ1 k1 k2 k3 k4 k5 k6
    cases ex with
    | normal => exact absurd h (hne σ' H')
    | exit id => exact this
    | ret => exact this
  | cond c x y =>
   refine ⟨?_, fun c' hc => by simp at hc⟩
   simp only [q5g, Bool.and_eq_true] at hwf
   simp only [q0s] at h
   split at h
   ·rename_i t ht
    have hv := ev_rel hE c
    rw [ht] at hv
    refine wpIn_cond hv.bool_inv ?_
    cases t with
    | true => exact (ih ro dp base lk nt x σ H ex σ' H' μ a w Q hwf.1 (by simpa using h) hR hE hn hq).1
    | false => exact (ih ro dp base lk nt y σ H ex σ' H' μ a w Q hwf.2 (by simpa using h) hR hE hn hq).1
   ·simp at h
  | block id x =>
   refine ⟨?_, fun c' hc => by simp at hc⟩
   simp only [q5g] at hwf
   simp only [q0s] at h
   refine wpIn_block ?_
   split at h
   ·rename_i j σ1 H1 h1
    refine (ih ro dp base lk nt x σ H (.exit j) σ1 H1 μ a w _ hwf h1 hR hE hn (fun a1 w1 μ1 k1 k2 k3 k4 k5 k6 => ?_)).1
    split at h
    ·rename_i hj
     simp only [Option.some.injEq, Prod.mk.injEq] at h
     obtain ⟨rfl, rfl, rfl⟩ := h
     simp only [Ex.toExit, Exit.inBlock, if_pos hj]
     exact hq a1 w1 μ1 k1 k2 k3 k4 k5 k6
    ·rename_i hj
     simp only [Option.some.injEq, Prod.mk.injEq] at h
     obtain ⟨rfl, rfl, rfl⟩ := h
     simp only [Ex.toExit, Exit.inBlock, if_neg hj]
     exact hq a1 w1 μ1 k1 k2 k3 k4 k5 k6
   ·rename_i hne
    refine (ih ro dp base lk nt x σ H ex σ' H' μ a w _ hwf h hR hE hn (fun a1 w1 μ1 k1 k2 k3 k4 k5 k6 => ?_)).1
    have := hq a1 w1 μ1 k1 k2 k3 k4 k5 k6
    cases ex with
    | normal => exact this
    | exit id => exact absurd h (hne id σ' H')
    | ret => exact this
  | loop x =>
   have key : LoopWp ro P x Q a w := by
    simp only [q5g] at hwf
    simp only [q0s] at h
    refine loop_step (dp := dp) ?_
    split at h
    ·rename_i σ1 H1 h1
     refine (ih ro dp base lk nt x σ H .normal σ1 H1 μ a w _ hwf h1 hR hE hn (fun a1 w1 μ1 k1 k2 k3 k4 k5 k6 => ?_)).1
     refine (ih ro dp base lk nt (.loop x) σ1 H1 ex σ' H' μ1 a1 w1 Q (by simpa [q5g] using hwf) h k2 k4 (by omega) (fun a2 w2 μ2 l1 l2 l3 l4 l5 l6 => ?_)).2 x rfl
     exact hq a2 w2 μ2 (k1.trans l1 (ist _ _ _ _ _ _ _ h1).1) l2 (k3.trans l3) l4 (by omega) (by rw [l6, k6])
    ·rename_i hne
     refine (ih ro dp base lk nt x σ H ex σ' H' μ a w _ hwf h hR hE hn (fun a1 w1 μ1 k1 k2 k3 k4 k5 k6 => ?_)).1
     have := hq a1 w1 μ1 k1 k2 k3 k4 k5 k6
     cases ex with
     | normal => exact absurd h (hne σ' H')
     | exit id => exact this
     | ret => exact this
   refine ⟨loop_of key, fun c' hc => ?_⟩
   injection hc with hc; subst hc; exact key
  | exit id =>
   simp only [q0s, Option.some.injEq, Prod.mk.injEq] at h
   obtain ⟨rfl, rfl, rfl⟩ := h
   exact ⟨wpIn_exit (hq a w μ (Le.refl _ _) hR (Below.refl _ _) hE rfl rfl), fun c' hc => by simp at hc⟩
  | ret =>
   simp only [q0s, Option.some.injEq, Prod.mk.injEq] at h
   obtain ⟨rfl, rfl, rfl⟩ := h
   exact ⟨wpIn_ret (hq a w μ (Le.refl _ _) hR (Below.refl _ _) hE rfl rfl), fun c' hc => by simp at hc⟩
  | rangeFunc f p x y => simp [q0s] at h
  | scope x =>
   refine ⟨wpIn_scope ?_, fun c' hc => by simp at hc⟩
   simp only [q5g] at hwf
   simp only [q0s] at h
   refine (ih ro dp base lk nt x σ H ex σ' H' μ a w _ hwf h hR hE hn (fun a1 w1 μ1 k1 k2 k3 k4 k5 k6 => ?_)).1
   have := hq a1 w1 μ1 k1 k2 k3 k4 k5 k6
   cases ex with
   | normal => exact this
   | exit id => exact this
   | ret => exact this
  | label l =>
   simp only [q0s, Option.some.injEq, Prod.mk.injEq] at h
   obtain ⟨rfl, rfl, rfl⟩ := h
   exact ⟨wpIn_label (hq a w μ (Le.refl _ _) hR (Below.refl _ _) hE rfl rfl), fun c' hc => by simp at hc⟩
  | goto l => simp [q0s] at h
  | refuse s => simp [q0s] at h

theorem calls_sim (hp : q7i P = true) (ho : OrcOk P md) (hw : wfMd P md = true) (hm : P.follows .mixedOrders = true) (n : Nat) : w4p P md (q1k P md n) := call_ok hw (exec_ok hp ho hw hm n)

#print axioms calls_sim
end
end Gx
end
