/- Regions that draw their order: the theorem. -/
import Derived.Test.YtehnbdbhjeffaaaGreatGz31
set_option linter.all false
section
set_option autoImplicit false
namespace Gx
open Go Go.RowKit

def cnt (D : Nat → Bool) : Nat → Nat
 | 0 => 0
 | k + 1 => cnt D k + if D k then 0 else 1

theorem cnt_plus (D : Nat → Bool) (i : Nat) (hi : D i = false) : ∀ n, (i < n → cnt (plus D i) n + 1 = cnt D n) ∧ (n ≤ i → cnt (plus D i) n = cnt D n)
 | 0 => ⟨fun h => by omega, fun _ => rfl⟩
 | n + 1 => by
  obtain ⟨h1, h2⟩ := cnt_plus D i hi n
  constructor
  ·intro h
   simp only [cnt]
   by_cases e : n = i
   ·subst e
    rw [h2 (Nat.le_refl _), q8a, hi]; simp
   ·have := h1 (by omega)
    rw [q5c D e]; omega
  ·intro h
   simp only [cnt]
   rw [h2 (by omega), q5c D (by omega)]

theorem cnt_zero (D : Nat → Bool) : ∀ n, cnt D n = 0 → ∀ k, k < n → D k = true
 | 0, _, k, h => by omega
 | n + 1, h, k, hk => by
  simp only [cnt] at h
  by_cases e : k = n
  ·subst e
   cases hd : D k with
   | true => rfl
   | false => rw [hd] at h; simp at h
  ·exact cnt_zero D n (by omega) k (by omega)

section
variable {P : Program} {base lk : Nat} {ops : Array Oper} {call : q0l} {ro : Option Nat} {dp : Nat}

def lst (l : Array Bool) : Nat → Bool := fun i => l.getD i false

theorem lst_set {l : Array Bool} {i : Nat} (hi : i < l.size) : lst (l.setIfInBounds i true) = plus (lst l) i := by
 funext k
 unfold lst plus
 rw [Array.getD_eq_getD_getElem?, Array.getElem?_setIfInBounds]
 by_cases e : i = k
 ·subst e; simp [hi]
 ·rw [if_neg e]
  have : (k == i) = false := by simp; exact fun h => e h.symm
  simp [this]

theorem ready_iff {l : Array Bool} (hl : l.size = ops.size) {i : Nat} : i ∈ Region.ready .any ops l ↔ ∃ o, ops[i]? = some o ∧ lst l i = false ∧ ∀ e ∈ o.after.toList, Region.binds .any e = true → lst l e.on = true := by
 unfold Region.ready
 rw [List.mem_filter, List.mem_range, Bool.and_eq_true]
 constructor
 ·rintro ⟨h1, h2, h3⟩
  refine ⟨ops[i], by rw [Array.getElem?_eq_getElem h1], ?_, ?_⟩
  ·unfold lst
   rw [Array.getD_eq_getD_getElem?, Array.getElem?_eq_getElem (by omega)] at h2 ⊢
   simpa using h2
  ·rw [Array.getElem?_eq_getElem h1] at h3
   simp only [Option.map_some, Option.getD_some, Array.all_eq_true_iff_forall_mem] at h3
   intro e he hb
   have := h3 e (by simpa using he)
   simpa [hb, lst] using this
 ·rintro ⟨o, h1, h2, h3⟩
  have hi := (Array.getElem?_eq_some_iff.1 h1).1
  refine ⟨hi, ?_, ?_⟩
  ·unfold lst at h2
   rw [Array.getD_eq_getD_getElem?, Array.getElem?_eq_getElem (by omega)] at h2 ⊢
   simpa using h2
  ·rw [h1]
   simp only [Option.map_some, Option.getD_some, Array.all_eq_true_iff_forall_mem]
   intro e he
   cases hb : Region.binds .any e with
   | false => rfl
   | true => simpa [lst] using h3 e (by simpa using he) hb

theorem ready_nil {l : Array Bool} (hl : l.size = ops.size) (hd : DrawOk ops) (h : Region.ready .any ops l = []) : ∀ i, i < ops.size → lst l i = true := by
 intro i
 induction i using Nat.strongRecOn with
 | _ i ih =>
  intro hi
  have ho : ops[i]? = some ops[i] := by rw [Array.getElem?_eq_getElem hi]
  cases hli : lst l i with
  | true => rfl
  | false =>
   have : i ∈ Region.ready .any ops l := (ready_iff hl).2 ⟨_, ho, hli, fun e he hb => by
    have hlt := hd.back i _ ho e he hb
    exact ih e.on hlt (by omega)⟩
   rw [h] at this; simp at this

theorem ev_rel' {μ : Inj} {σ : Env} {a : Act} {x : Operand} (h : ∀ t, x = .tmp t → VR μ (σ t) (a.tmps.getD t undef)) : VR μ (ev σ x) (a.eval x) := by
 cases x with
 | tmp t => exact h t rfl
 | const v =>
  simp only [ev, Act.eval]
  split
  ·exact kok_rel μ (by assumption)
  ·exact .junk _
 | global g => exact .junk _
 | func f => exact .one (.func rfl fun j => by simpa using VR0.nilf)

theorem draw_any (hp0 : q7i P = true) (hc : w3u P call) (hst : q1a call) (hd : DrawOk ops) {n : Nat} (hwf : w3v n ops = true) {Q : Exit → Act → World → Prop} {σ0 : Env} {H0 : Heap} {en : Nat → Env} {hp : Nat → Heap} {r : Nat → Value} {μ0 : Inj} {a0 : Act} {w0 : World} (T : Tr P call lk ops σ0 H0 en hp r) (hn : n ≤ a0.tmps.size)
  (hq : ∀ a' w' μ', Le H0.length μ0 μ' → HR base lk μ' (hp ops.size) w' → Below base w0 w' → ER μ' (en ops.size) a'.tmps → a'.tmps.size = a0.tmps.size → a'.defers = a0.defers → Q .normal a' w') :
  ∀ (fuel : Nat) (l : Array Bool) (a : Act) (w : World) (μ : Inj) (s e : Nat), l.size = ops.size → cnt (lst l) ops.size = fuel → Inv base lk ops σ0 H0 hp r μ0 a0 w0 (lst l) a w μ s e → wpAnyIn (Fr ro) dp P .any ops Q fuel l a w := by
 have fin : ∀ (l : Array Bool) (a : Act) (w : World) (μ : Inj) (s e : Nat), Inv base lk ops σ0 H0 hp r μ0 a0 w0 (lst l) a w μ s e → (∀ i, i < ops.size → lst l i = true) → Q .normal a w := by
  intro l a w μ s e J hall
  have he : e = ops.size := by
   rcases Nat.lt_or_ge e ops.size with h | h
   ·obtain ⟨o, ho, hlo⟩ := J.at_ h
    have hnp : q2k o.op = false := by
     cases ho' : o.op <;> rw [ho'] at hlo <;> simp [loud] at hlo <;> simp [q2k]
    have := (J.mem e o ho hnp).2 (Nat.le_refl _)
    rw [hall e h] at this; simp at this
   ·have := J.en; omega
  subst he
  have hcut : cut μ (hp ops.size).length = μ := by
   funext b
   unfold cut
   split
   ·rfl
   ·exact (J.top b (by omega)).symm
  have hh := J.heap _ J.se (Nat.le_refl _)
  rw [hcut] at hh
  refine hq a w μ J.le hh J.below (fun t => ?_) J.size J.defers
  have up : ∀ {m : Nat} {v v' : Value}, VR (cut μ m) v v' → VR μ v v' := by
   intro m v v' hv
   refine hv.mono (n := 0) ⟨fun b i hb => ?_, fun b hb => by omega⟩
   unfold cut at hb
   split at hb
   ·exact hb
   ·simp at hb
  rcases T.val ops.size (Nat.le_refl _) t with ⟨k, o, h1, h2, h3, h4⟩ | ⟨h1, h2⟩
  ·rw [h4]; exact up (J.done k o t h2 (hall k h1) h3)
  ·rw [h2]; exact up (J.rest t fun k o ho hk => h1 k o ((Array.getElem?_eq_some_iff.1 ho).1) ho)
 intro fuel
 induction fuel with
 | zero =>
  intro l a w μ s e hl hcnt J
  have hall := cnt_zero _ _ hcnt
  refine ⟨?_, fin l a w μ s e J hall⟩
  rw [List.eq_nil_iff_forall_not_mem]
  intro i hi
  obtain ⟨o, h1, h2, _⟩ := (ready_iff hl).1 hi
  rw [hall i (Array.getElem?_eq_some_iff.1 h1).1] at h2; simp at h2
 | succ fuel ih =>
  intro l a w μ s e hl hcnt J
  refine ⟨fun h => fin l a w μ s e J (ready_nil hl hd h), fun i hi => ?_⟩
  obtain ⟨o, ho, hni, hdep⟩ := (ready_iff hl).1 hi
  have hin := (Array.getElem?_eq_some_iff.1 ho).1
  have hset : lst (l.setIfInBounds i true) = plus (lst l) i := lst_set (by omega)
  have hcnt' : cnt (lst (l.setIfInBounds i true)) ops.size = fuel := by
   rw [hset]
   have := (cnt_plus (lst l) i hni ops.size).1 hin
   omega
  have go : ∀ (a' : Act) (w' : World) (μ' : Inj) (s' e' : Nat), Inv base lk ops σ0 H0 hp r μ0 a0 w0 (plus (lst l) i) a' w' μ' s' e' → wpAnyIn (Fr ro) dp P .any ops Q fuel (l.setIfInBounds i true) a' w' := by
   intro a' w' μ' s' e' J'
   exact ih _ a' w' μ' s' e' (by simpa using hl) hcnt' (by rw [hset]; exact J')
  have hds : ∀ k, o.dst = some k → k < a.tmps.size := by
   intro d hdd
   have hm' : o ∈ ops := Array.mem_of_getElem? ho
   unfold w3v at hwf
   rw [Array.all_eq_true_iff_forall_mem] at hwf
   have := hwf o hm'
   rw [hdd] at this
   simp at this
   rw [J.size]
   exact Nat.lt_of_lt_of_le this hn
  have hreads : ∀ t, t ∈ w2s ops o → VR (cut μ (hp i).length) (en i t) (a.tmps.getD t undef) := fun t ht => J.reads T hst hd ho hni hdep ht
  have hop : OpR (cut μ (hp i).length) (en i) a o.op := by
   intro x hx
   refine ev_rel' fun t ht => hreads t ?_
   subst ht
   unfold w2s
   exact List.mem_append_left _ (List.mem_filterMap.2 ⟨_, hx, rfl⟩)
  have hcute : cut μ (hp e).length = μ := by
   funext b
   unfold cut
   split
   ·rfl
   ·exact (J.top b (by omega)).symm
  have place : q2k o.op = false → (loud ops o.op = false → s ≤ i ∧ i < e) ∧ (loud ops o.op = true → i = e) := by
   intro hnp
   have hsi : s ≤ i := by
    rcases Nat.lt_or_ge i s with h | h
    ·have := (J.mem i o ho hnp).1 h
     rw [hni] at this; simp at this
    ·exact h
   have hnot : ¬ e < i := by
    intro hlt
    obtain ⟨q, hq1, hq2⟩ := J.at_ (by omega)
    have hqn : q2k q.op = false := by
     cases ho' : q.op <;> rw [ho'] at hq2 <;> simp [loud] at hq2 <;> simp [q2k]
    have hcmp := hd.loud e i q o (by omega) hq1 ho hq2 hnp
    have hDe := (J.mem e q hq1 hqn).2 (Nat.le_refl _)
    have : lst l e = true := by
     unfold cmpAnc at hcmp
     rw [if_pos hlt] at hcmp
     exact anc_run hd J.closed i o ho hdep e hcmp
    rw [hDe] at this; simp at this
   constructor
   ·intro hlo
    refine ⟨hsi, ?_⟩
    rcases Nat.lt_or_ge i e with h | h
    ·exact h
    ·have : i = e := by omega
     subst this
     obtain ⟨q, hq1, hq2⟩ := J.at_ hin
     rw [ho] at hq1; injection hq1 with hq1; subst hq1
     rw [hlo] at hq2; simp at hq2
   ·intro hlo
    rcases Nat.lt_or_ge i e with h | h
    ·have := J.quiet i o ho hsi h
     rw [hlo] at this; simp at this
    ·omega
  have hs := T.step i o ho
  unfold wpOpIn
  simp only [ho]
  unfold q4g at hs
  cases hw : w3z ops o (en i) with
  | none => rw [hw] at hs; simp at hs
  | some b =>
   rw [hw] at hs
   have hwant := want_rel (a := a) (μ := cut μ (hp i).length) (fun j want d hg hdd => hreads d (by
    unfold w2s
    refine List.mem_append_right _ ?_
    rw [hg]; simp only; rw [hdd]; simp)) hw
   rw [hwant]
   cases b with
   | false =>
    simp only [Option.some.injEq, Prod.mk.injEq] at hs
    obtain ⟨hs1, hs2⟩ := hs
    simp only [Bool.false_eq_true, if_false]
    refine ⟨fun f _ => fr_fn ro f, ?_⟩
    by_cases hlo : loud ops o.op = true
    ·have hnp : q2k o.op = false := by
      cases ho' : o.op <;> rw [ho'] at hlo <;> simp [loud] at hlo <;> simp [q2k]
     have hie := (place hnp).2 hlo
     subst hie
     have hh := J.heap _ J.se (Nat.le_refl _)
     rw [hcute] at hh
     obtain ⟨s', e', J'⟩ := J.loud T hst hd ho hlo hni hdep (v' := undef) hds (Le.refl _ μ) (by rw [← hs2]; exact hh) (Below.refl _ _) (by rw [← hs1]; exact q3t _)
     exact go _ _ _ _ _ J'
    ·exact go _ _ _ _ _ (J.still T hst hd ho hdep (v' := undef) (by rw [← hs1]; exact q3t _) hds (fun hnp => (place hnp).1 (by simpa using hlo)) (fun _ _ => hs2.symm))
   | true =>
    simp only [if_true]
    obtain ⟨v0, h0, hlr⟩ := q8e hs
    replace hs := h0
    by_cases hpu : q2k o.op = true
    ·have hli : isLit o.op = false := by
      cases ho' : o.op <;> rw [ho'] at hpu <;> simp [q2k] at hpu <;> rfl
     rw [w4k hli] at hlr
     injection hlr with hlr
     rw [hlr] at hs
     obtain ⟨h1, v', h2, h3⟩ := pure_sim (P := P) (w := w) hpu hop hs
     refine ⟨fun f _ => fr_fn ro f, ?_⟩
     rw [Oper.semAt_eq _ _ _ (fun c hc => by rw [hc] at hpu; cases hpu), h2, Oper.uponIn_value]
     exact go _ _ _ _ _ (J.still T hst hd ho hdep (cut_mono (by rw [h1]; exact Nat.le_refl _) h3) hds (fun hnp => by rw [hpu] at hnp; simp at hnp) (fun _ _ => h1))
    ·have hnp : q2k o.op = false := by simpa using hpu
     by_cases hlo : loud ops o.op = true
     ·have hie := (place hnp).2 hlo
      subst hie
      have hh := J.heap _ J.se (Nat.le_refl _)
      rw [hlo] at hs
      have hli : isLit o.op = false := by
       cases ho' : o.op <;> rw [ho'] at hlo <;> simp [loud] at hlo <;> rfl
      rw [w4k hli] at hlr
      injection hlr with hlr
      rw [hlr] at hs
      simp only [Bool.not_true, Bool.and_false, Bool.false_eq_true, if_false] at hs
      refine step_sim hp0 hc _ Q hh hop hs (fun v' w' μ' g1 g2 g3 g4 => ?_)
      rw [hcute] at g1
      obtain ⟨s', e', J'⟩ := J.loud T hst hd ho hlo hni hdep hds g1 g2 g3 g4
      exact go _ _ _ _ _ J'
     ·have hlo' : loud ops o.op = false := by simpa using hlo
      obtain ⟨g5, g6⟩ := (place hnp).1 hlo'
      have hh := (J.heap i g5 (by omega)).hold
      rw [hlo'] at hs
      simp only [Bool.not_false, Bool.and_self, if_true] at hs
      cases hli : isLit o.op with
      | false =>
       rw [w4k hli] at hlr
       injection hlr with hlr
       rw [hlr] at hs
       refine step_sim hp0 hc _ Q hh hop hs (fun v' w' μ' g1 g2 g3 g4 => ?_)
       obtain ⟨μ2, J'⟩ := J.made T hst hd ho hni hdep hds g5 g6 g1 g2 g3 g4
       exact go _ _ _ _ _ J'
      | true =>
       have hl2 : lit0 = r i := by
        unfold litR at hlr
        rw [hli] at hlr
        injection hlr
       refine lit_sim _ Q hli hh hop hs (fun v' w' μ' g1 g2 g3 g4 => ?_)
       rw [hl2] at g4
       obtain ⟨μ2, J'⟩ := J.made T hst hd ho hni hdep hds g5 g6 g1 g2 g3 g4
       exact go _ _ _ _ _ J'

theorem draw_sim (hp0 : q7i P = true) (hm : P.follows .mixedOrders = true) (hc : w3u P call) (hst : q1a call) (hd : drawOk ops = true) {n : Nat} (hwf : w3v n ops = true) {Q : Exit → Act → World → Prop} {σ σ' : Env} {H H' : Heap} {μ : Inj} {a : Act} {w : World} {id : Nat}
  (h : HR base lk μ H w) (he : ER μ σ a.tmps) (hn : n ≤ a.tmps.size) (hi : iops P call lk true ops ops.toList σ H = some (σ', H'))
  (hq : ∀ a' w' μ', Le H.length μ μ' → HR base lk μ' H' w' → Below base w w' → ER μ' σ' a'.tmps → a'.tmps.size = a.tmps.size → a'.defers = a.defers → Q .normal a' w') : (Code.region id ops true).wpIn (Fr ro) dp P Q a w := by
 obtain ⟨S, r, h1, h2, h3⟩ := trace ops.toList 0 σ H σ' H' rfl (by simp) hi
 have T : Tr P call lk ops σ H (fun i => (S i).1) (fun i => (S i).2) r := by
  refine ⟨by simp [h1], by simp [h1], fun i o ho => (h3 i o (Nat.zero_le _) ho).1, fun i o ho => (h3 i o (Nat.zero_le _) ho).2⟩
 refine wpIn_region_any hm ?_
 have hW : HR base lk μ H { w with drawn := w.drawn + 1 } := h.heap rfl
 obtain ⟨e, n1, n2, n3, n4⟩ := next_loud ops ops.size 0 (by omega)
 have hl0 : ∀ i, lst (Array.replicate ops.size false) i = false := by
  intro i
  unfold lst
  rw [Array.getD_eq_getD_getElem?, Array.getElem?_replicate]
  split <;> rfl
 have hlen : ∀ j, j ≤ ops.size → H.length ≤ (S j).2.length := by
  intro j hj
  have := T.len' hst (Nat.zero_le j) hj
  simpa [h1] using this
 have hcut : ∀ m, H.length ≤ m → cut μ m = μ := by
  intro m hm
  funext b
  unfold cut
  split
  ·rfl
  ·cases hb' : μ b with
   | none => rfl
   | some x => have := h.dom b x hb'; omega
 refine draw_any (base := base) hp0 hc hst (drawOk_iff hd) hwf T (μ0 := μ) (a0 := a) (w0 := { w with drawn := w.drawn + 1 }) hn (fun a' w' μ' k1 k2 k3 k4 k5 k6 => ?_) ops.size _ a _ μ 0 e (by simp) ?_ ?_
 ·refine hq a' w' μ' k1 ?_ (((Below.refl base w).drew).trans k3) ?_ k5 k6
  ·simpa [h2] using k2
  ·simpa [h2] using k4
 ·have : ∀ m, cnt (lst (Array.replicate ops.size false)) m = m := by
   intro m
   induction m with
   | zero => rfl
   | succ m ih => simp only [cnt, ih, hl0]; rfl
  exact this _
 ·refine ⟨n1, n2, fun i o _ hi => by rw [hl0] at hi; simp at hi, fun i hi => by rw [hl0] at hi; simp at hi, n3, n4, fun i o _ _ => ⟨fun h => by omega, fun _ => hl0 i⟩, ?_, ?_, ?_, fun k o t _ hk => by rw [hl0] at hk; simp at hk, fun t _ => ?_, rfl, rfl, Below.refl _ _, Le.refl _ _⟩
  ·intro i h5 h6
   rw [hcut _ (hlen i (by omega))]
   refine hW.more (hlen i (by omega)) fun b hb => ?_
   have := T.same' hst n2 n3 (i := 0) (j := i) (Nat.le_refl _) h5 h6 b (by simpa [h1] using hb)
   simpa [h1] using this
  ·intro b hb
   cases hx : μ b with
   | none => rfl
   | some x => have := h.dom b x hx; have := hlen e n2; omega
  ·intro i h5 h6 _ b h7 h8
   cases hx : μ b with
   | none => rfl
   | some x => have := h.dom b x hx; have := hlen i (by omega); omega
  ·rw [hcut _ (Nat.le_refl _)]; exact he t

end
end Gx
end
