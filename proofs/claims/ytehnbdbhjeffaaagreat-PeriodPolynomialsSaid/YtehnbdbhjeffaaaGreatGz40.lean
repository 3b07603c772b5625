/- What is told of period.periods is as the model has it. -/
import Derived.Test.YtehnbdbhjeffaaaGreatGz39
set_option linter.all false
section
set_option autoImplicit false
namespace Gx
open Go Go.RowKit Go.Proofs
section
variable {P : Program} {base lk : Nat} {μ : Inj} {H : Heap} {w : World}
theorem reg_sim (hp : q7i P = true) {call : q0l} (hc : w3u P call) (hst : q1a call) {ops : Array Oper} {nt : Nat} (hwf : w3v nt ops = true) {ro : Option Nat} {dp id : Nat} {Q : Exit → Act → World → Prop} {σ σ' : Env} {H' : Heap} {a : Act}
  (hR : HR base lk μ H w) (hE : ER μ σ a.tmps) (hn : nt ≤ a.tmps.size) (hi : iops P call lk false ops ops.toList σ H = some (σ', H'))
  (hq : ∀ a' w' μ', Le H.length μ μ' → HR base lk μ' H' w' → Below base w w' → ER μ' σ' a'.tmps → a'.tmps.size = a.tmps.size → a'.defers = a.defers → Q .normal a' w') : (Code.region id ops false).wpIn (Fr ro) dp P Q a w := by
 refine wpIn_region ?_
 rw [List.range_eq_range']
 exact ops_sim hp hc hst hwf Q ops.toList 0 ops.size rfl (by omega) σ H μ a w hR hE hn hi hq
theorem q8l (hR : HR base lk μ H w) {b o : Nat} {i : Info} (hb : μ b = some i) {t : TypeId} {k : IntKind} {n : Int} (hl : q2n P H t (.pointer (some ⟨b, o, none⟩)) = some (.int k n)) : w.cell? ⟨i.r, i.o + o, none⟩ = some (.int k n) := by
 simp only [q2n] at hl
 split at hl
 ·obtain ⟨l, _, hl⟩ := Option.map_eq_some_iff.1 hl
  cases hl
 ·rename_i B m hB _ _
  obtain ⟨hB, hd⟩ := q3w.1 hB
  obtain ⟨v', e1, e2⟩ := hR.cell b i B hb hB hd o _ hl
  cases e2
  exact e1
 ·cases hl
theorem tuple2_inv {vs : Array Value} {v : Value} {k k' : IntKind} {x y : Int} (h : VR μ (.tuple vs) v) (hv : vs.toList = [.int k x, .int k' y]) : v = .tuple #[.int k x, .int k' y] := by
 have hvs : vs = #[.int k x, .int k' y] := by
  apply Array.toList_inj.1; rw [hv]
 subst hvs
 cases h with
 | one h => cases h
 | tuple hs h =>
  rename_i ds
  have h0 := h 0
  have h1 := h 1
  have hs2 : ds.size = 2 := by rw [← hs]; rfl
  have g : ∀ {k : IntKind} {x : Int} {u : Value}, VR μ (.int k x) u → u = .int k x := fun h => by
   cases h with
   | one h => cases h; rfl
  have e0 := g h0
  have e1 := g h1
  congr 1
  apply Array.ext
  ·simp [hs2]
  ·intro j hj1 hj2
   have : j = 0 ∨ j = 1 := by omega
   rcases this with rfl | rfl
   ·simpa [hj1] using e0
   ·simpa [hj1] using e1
theorem rnds_snoc {call : q0l} {ops : Array Oper} {σ : Env} (x : Int) : ∀ (xs : List Int) (H : Heap), rnds P call lk ops σ (xs ++ [x]) H = (rnds P call lk ops σ xs H).bind fun H' => (iops P call lk true ops ops.toList (upd (upd σ 13 (.int .i64 x)) 6 (.int .i64 x)) H').map (·.2)
 | [], H => by
  simp only [List.nil_append, rnds, Option.bind_some]
  cases iops P call lk true ops ops.toList (upd (upd σ 13 (.int .i64 x)) 6 (.int .i64 x)) H <;> rfl
 | y :: xs, H => by
  show (iops P call lk true ops ops.toList _ H).bind _ = ((iops P call lk true ops ops.toList _ H).bind _).bind _
  cases iops P call lk true ops ops.toList (upd (upd σ 13 (.int .i64 y)) 6 (.int .i64 y)) H with
  | none => rfl
  | some r => exact rnds_snoc x xs r.2
end
theorem wfR0 : w3v 22 perR0 = true := by kernel_rfl
theorem wfR1 : w3v 22 perR1 = true := by kernel_rfl
theorem wfR2 : w3v 22 perR2 = true := by kernel_rfl
theorem wfR4 : w3v 22 w2p = true := by kernel_rfl
theorem wfR5 : w3v 22 perR5 = true := by kernel_rfl
theorem drR2 : drawOk perR2 = true := by kernel_rfl
theorem drR4 : drawOk w2p = true := by kernel_rfl
theorem itVal_iff {v : Value} {H : Heap} {q : ItV} (h : itVal v H = some q) : ∃ cap : Array Value, v = .func (.func 153) #[] cap ∧ cap = #[.pointer (some ⟨q.b1, q.o1, none⟩), .pointer (some ⟨q.b2, q.o2, none⟩)] ∧
  q2n Tryz.prog H 3 (.pointer (some ⟨q.b1, q.o1, none⟩)) = some (.int .i64 q.p) ∧ q2n Tryz.prog H 3 (.pointer (some ⟨q.b2, q.o2, none⟩)) = some (.int .i64 (q.n : Int)) ∧ q.p ≠ 0 ∧ (q.n : Int) ≤ 9223372036854775806 := by
 unfold itVal at h
 split at h
 ·rename_i gf first cap
  split at h
  ·rename_i hg
   obtain ⟨rfl, rfl⟩ := hg
   split at h
   ·rename_i b1 o1 b2 o2 hcap
    split at h
    ·rename_i p n h1 h2
     split at h
     ·rename_i hc
      injection h with h; subst h
      refine ⟨cap, rfl, Array.toList_inj.1 (by rw [hcap]), h1, ?_, hc.1, ?_⟩
      ·rw [h2]
       have : ((n.toNat : Nat) : Int) = n := Int.toNat_of_nonneg hc.2.1
       simp only [this]
      ·have := hc.2.2; have := hc.2.1; simp only; omega
     ·cases h
    ·cases h
   ·cases h
  ·cases h
 ·cases h
set_option maxHeartbeats 1000000 in
theorem per_orcOk (hp : q7i Tryz.prog = true) (hm : Tryz.prog.follows .mixedOrders = true) {md : Md} (hmd : md.orc = q9o) : OrcOk Tryz.prog md := by
 intro call hc hs base lk μ H w g fn args args' v H' _ hg hR hl ha h
 rw [hmd] at h
 unfold q9o at h
 split at h
 ·rename_i hgg
  subst hgg
  rw [Tryz.func49] at hg
  injection hg with hg
  subst hg
  obtain ⟨r0, h0, h⟩ := Option.bind_eq_some_iff.1 h
  obtain ⟨r1, h1, h⟩ := Option.bind_eq_some_iff.1 h
  obtain ⟨r2, h2, h⟩ := Option.bind_eq_some_iff.1 h
  obtain ⟨q, hq, h⟩ := Option.bind_eq_some_iff.1 h
  obtain ⟨gr, hgr, h⟩ := Option.bind_eq_some_iff.1 h
  split at h
  ·rename_i hall
   obtain ⟨H3, h3, h⟩ := Option.bind_eq_some_iff.1 h
   obtain ⟨r5, h5, h⟩ := Option.map_eq_some_iff.1 h
   simp only [Prod.mk.injEq] at h
   obtain ⟨rfl, rfl⟩ := h
   obtain ⟨σ0, H0⟩ := r0
   obtain ⟨σ1, H1⟩ := r1
   obtain ⟨σ2, H2⟩ := r2
   obtain ⟨σ5, H5⟩ := r5
   obtain ⟨gv, ke, ev⟩ := gr
   simp only at h0 h1 h2 hq hgr hall h3 h5
   obtain ⟨cap, hv, hcap, hl1, hl2, hp0, hn0⟩ := itVal_iff hq
   have hPR : ∀ (k : Nat) (W : World), CallsIn (Fr none) k Tryz.prog 154 #[.int .i64 q.p] W fun e W' => e = .returned (.tuple #[.int .i64 gv, .int ke ev]) ∧ Below W.heap.size W W' := by
    intro k W
    unfold prVal at hgr
    split at hgr
    ·rename_i vs HH hcall
     split at hgr
     ·rename_i g' k' e' hvs
      simp only [Option.some.injEq, Prod.mk.injEq] at hgr
      obtain ⟨rfl, rfl, rfl⟩ := hgr
      have hE : HR W.heap.size 0 (fun _ => none) [] W := ⟨fun b i h => (by cases h), fun b i h => (by cases h), fun b i B h => (by cases h), fun b i B h => (by cases h), fun b i B h => (by cases h), fun b i B h => (by cases h), fun b b' i i' B B' _ h => (by cases h), Nat.le_refl _, Nat.le_refl _⟩
      refine callsIn_fr ((hc W.heap.size 0 (fun _ => none) [] W 154 _ [.int .i64 q.p] #[.int .i64 q.p] _ _ Tryz.func154 hE rfl (fun j => ?_) hcall).mono ?_)
      ·cases j with
       | zero => exact .one (.int _ _)
       | succ j => simpa using q3t _
      ·rintro e w' ⟨v', μ', rfl, k1, k2, k3, k4⟩
       exact ⟨by rw [tuple2_inv k4 hvs], k3⟩
     ·cases hgr
    ·cases hgr
   refine (callsIn_wide (n := 2)).1 ?_
   refine callsIn_of_wp_marks Tryz.func49 per_body trivial ?_ rfl
   have hsz : (args' ++ Array.replicate (Tryz.f49.ntmps - args'.size) undef).size ≥ 22 := by
    have : Tryz.f49.ntmps = 22 := rfl
    rw [this]; simp; omega
   refine wpIn_seq (reg_sim (ro := none) hp hc hs wfR0 hR (args_rel hl ha _) hsz h0 (fun a0 w0 μ0 p1 p2 p3 p4 p5 p6 => ?_))
   refine wpIn_seq (reg_sim (ro := none) hp hc hs wfR1 p2 p4 (by rw [p5]; exact hsz) h1 (fun a1 w1 μ1 q1 q2 q3 q4 q5 q6 => ?_))
   refine wpIn_seq (wpIn_seq (draw_sim (ro := none) hp hm hc hs drR2 wfR2 q2 q4 (by rw [q5, p5]; exact hsz) h2 (fun a2 w2 μ2 s1 s2 s3 s4 s5 s6 => ?_)))
   have e12 := s4 12
   rw [hv] at e12
   obtain ⟨_, lb, hlb, hls, hlj⟩ := e12.func_inv
   subst hcap
   have hj0 := hlj 0
   have hj1 := hlj 1
   obtain ⟨i1, hi1, x1⟩ := (VR.one hj0 : VR μ2 (.pointer (some ⟨q.b1, q.o1, none⟩)) _).ptr_inv
   obtain ⟨i2, hi2, x2⟩ := (VR.one hj1 : VR μ2 (.pointer (some ⟨q.b2, q.o2, none⟩)) _).ptr_inv
   have hlb2 : lb = #[.pointer (some ⟨i1.r, i1.o + q.o1, none⟩), .pointer (some ⟨i2.r, i2.o + q.o2, none⟩)] := by
    have hs2 : lb.size = 2 := by rw [← hls]; rfl
    apply Array.ext
    ·simp [hs2]
    ·intro j hj1' hj2'
     have : j = 0 ∨ j = 1 := by omega
     rcases this with rfl | rfl
     ·simpa [hj1'] using x1
     ·simpa [hj1'] using x2
   have c1 := q8l s2 hi1 hl1
   have c2 := q8l s2 hi2 hl2
   have hseq := powers_stops (Fr none) rfl (fun f => trivial) rfl (dp := 1) hp0 hn0 w2 c1 c2 hPR
   have hsize2 : a2.tmps.size ≥ 22 := by rw [s5, q5, p5]; exact hsz
   have hdef2 : a2.defers = [] := by rw [s6, q6, p6]
   have hbw2 : Below base w w2 := (p3.trans q3).trans s3
   have hLe2 : Le H.length μ μ2 := (p1.trans q1 (q2j hs _ _ _ _ _ h0).1).trans s1 (Nat.le_trans (q2j hs _ _ _ _ _ h0).1 (q2j hs _ _ _ _ _ h1).1)
   have hle2 : H.length ≤ H2.length := Nat.le_trans (Nat.le_trans (q2j hs _ _ _ _ _ h0).1 (q2j hs _ _ _ _ _ h1).1) (q2j hs _ _ _ _ _ h2).1
   have hle3 : H.length ≤ H3.length := Nat.le_trans hle2 (w1h hs _ _ _ h3).1
   refine wpIn_block ?_
   refine wpIn_rangeFunc_ownF (F := Fr none) (n := 2) rfl (by omega) (gf := 153) (lb := lb) hlb trivial (enters_of Tryz.func153 (by kernel_rfl) rfl) (hlb2 ▸ hseq) (fun h k x => k (h x)) ?hKb (.refl _ _) (fun _ => rfl)
    (fun pre W => ∃ Hk μk, rnds Tryz.prog call lk w2p σ2 (pre.map (·.1)) H2 = some Hk ∧ Le H2.length μ2 μk ∧ HR base lk μk Hk W ∧ Below base w2 W) (fun _ _ _ => False) ?hI (fun _ _ _ _ _ hs _ _ => hs) ⟨H2, μ2, rfl, Le.refl _ _, s2, .refl _ _⟩
    (fun x => { tmps := (a2.tmps.setIfInBounds 13 (.int .i64 x.1)).setIfInBounds 6 (.int .i64 x.1), defers := [] }) ?assign ?body ?done ?stop
   case hKb =>
    intro W l o o' _ hl ho _ hc1
    obtain ⟨o2, ho2, hc2⟩ := cells_of_cell hc1
    refine (World.cell?_of_block (World.putObj_heap_other ?_)).trans hc1
    rintro rfl
    simp only at ho2
    rw [hl] at ho2; injection ho2 with ho2; subst ho2
    rw [ho] at hc2; cases hc2
   case hI =>
    rintro pre W W' row ⟨Hk, μk, e1, e2, e3, e4⟩ hg' hr'
    exact ⟨Hk, μk, e1, e2, e3.gr hg' (fun r e => (hr' r e).2), e4.gr s2.base hg' (fun r e => (hr' r e).1)⟩
   case assign =>
    intro l x W K hK
    have hR3 : perR3 = #[{ dst := some 6, op := .assign (.tmp 13), type := 3, pos := perR3[0]!.pos, after := #[], guard := none }] := rfl
    have hz : (#[13].zip #[Value.int .i64 x.1]).foldl (fun t (p, v) => t.setIfInBounds p v) a2.tmps = a2.tmps.setIfInBounds 13 (.int .i64 x.1) := by simp
    rw [hz]
    refine wpIn_region ?_
    rw [hR3]
    have hev : Act.eval { tmps := a2.tmps.setIfInBounds 13 (.int .i64 x.1), defers := [] } (.tmp 13) = .int .i64 x.1 := by
     show (a2.tmps.setIfInBounds 13 (.int .i64 x.1)).getD 13 undef = _
     rw [Array.getD_eq_getD_getElem?, Array.getElem?_setIfInBounds, if_pos rfl, if_pos (by omega)]; rfl
    show _ ∧ _
    refine ⟨fun f _ => trivial, ?_⟩
    rw [Oper.semAt_eq _ _ _ (fun c hc => by cases hc)]
    show Oper.uponIn _ _ _ _ _ _ _ (.ok (.value (Act.eval _ (.tmp 13))) W)
    rw [hev]
    exact hK
   case body =>
    rintro l pre x W ⟨Hk, μk, e1, e2, e3, e4⟩ hlen
    obtain ⟨Hn, f1, f2⟩ := hall (pre.map (·.1) ++ [x.1]) (fun y hy => by
      rcases List.mem_append.1 hy with hy | hy
      ·obtain ⟨z, _, rfl⟩ := List.mem_map.1 hy; exact z.2
      ·rw [List.mem_singleton.1 hy]; exact x.2) (by simp; omega)
    have f1' := f1
    rw [rnds_snoc, e1] at f1'
    obtain ⟨⟨σn, Hn'⟩, f3, f4⟩ := Option.map_eq_some_iff.1 f1'
    simp only at f4
    subst f4
    refine wpIn_block (draw_sim (ro := some l) hp hm hc hs drR4 wfR4 e3 (a := { tmps := (a2.tmps.setIfInBounds 13 (.int .i64 x.1)).setIfInBounds 6 (.int .i64 x.1), defers := [] }) ?_ (by simpa using hsize2) f3 (fun a' w' μ' g1 g2 g3 g4 g5 g6 => ?_))
    ·have t1 := put_rel (a := { tmps := a2.tmps, defers := [] }) (d := some 13) (s4.mono e2) (VR.one (VR0.int .i64 x.1)) (fun k e => by cases e; exact Nat.lt_of_lt_of_le (by omega) hsize2)
     exact put_rel (d := some 6) t1 (VR.one (VR0.int .i64 x.1)) (fun k e => by cases e; rw [q6a]; exact Nat.lt_of_lt_of_le (by omega) hsize2)
    ·exact ⟨g3.oth, fun _ => q8l g2 (g1.1 _ _ (e2.1 _ _ hi1)) f2, Hn', μ', by rw [List.map_append]; exact f1, e2.trans g1 (w1h hs _ _ _ e1).1, g2, e4.trans g3⟩
   case done =>
    rintro D xs W hD hxs ⟨Hk, μk, e1, e2, e3, e4⟩ hK
    rw [hxs, h3] at e1
    injection e1 with e1
    subst e1
    refine wpIn_seq (reg_sim (ro := none) hp hc hs wfR5 e3 (s4.mono e2) (by simpa using hsize2) h5 (fun a5 w5 μ5 g1 g2 g3 g4 g5 g6 => ?_))
    refine wpIn_ret ?_
    have hK5 := g3.oth.same _ _ hK rfl
    have hb5 : Below base w w5 := (hbw2.trans e4).trans g3
    have hgr5 := grownBy_putObj' w5 D (.deferred none)
    show LeavesInM _ _ _ _ _ _ a5.defers .returning w5
    rw [g6]
    simp only [hdef2]
    refine ⟨by simp, .inl ⟨D, _, rfl, run_takeDeferred hK5, ?_⟩⟩
    refine ⟨_, results_tmp rfl _ _ _, ?_⟩
    exact ⟨_, μ5, rfl, (hLe2.trans e2 hle2).trans g1 hle3, g2.gr hgr5 (fun r e => by cases e; exact ⟨_, hK5, rfl⟩), hb5.gr hR.base hgr5 (fun r e => by cases e; exact Nat.le_trans hbw2.size hD), g4 4⟩
   case stop => exact fun _ _ _ _ _ _ h => h.elim
  ·cases h
 ·cases h
end Gx
end
