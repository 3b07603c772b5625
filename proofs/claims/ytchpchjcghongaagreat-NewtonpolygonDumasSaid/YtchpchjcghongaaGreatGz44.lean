/- The law Dumas. -/
import Derived.Test.YtchpchjcghongaaGreatGz18
import Derived.Test.YtchpchjcghongaaGreatGz22
import Derived.Test.YtchpchjcghongaaGreatGz43
set_option linter.all false
set_option linter.unusedVariables false
set_option linter.unusedSimpArgs false
set_option linter.unnecessarySimpa false
set_option linter.deprecated false
section
set_option autoImplicit false
namespace Gx
open Go Go.Proofs
set_option maxRecDepth 10000
theorem icall_yesD {P : Program} {md : FuncId → Nat} {lk : Nat} {g : FuncId} {fn : Func} {body : Code} {args : List Value} {H : Heap} (hg : P.funcs[g]? = some fn) (hb : fn.body = some body) (h : Runs P md lk body (args0 args) H (Ends P fn fun u _ => u = .bool true)) : ∃ n H', icall P md n lk g args H = some (.bool true, H') := by
  obtain ⟨n, v, H', h1, h2⟩ := icall_of hg hb h
  exact ⟨n, H', by rw [h1, h2]⟩
theorem lenSum_sides (l : List Vtx) : ∀ i, i < l.length → lenSum (sidesTo l i) = (l.getD i ⟨0, 0⟩).x - (l.getD 0 ⟨0, 0⟩).x
  | 0, _ => by simp [sidesTo, lenSum]
  | i + 1, h => by
    rw [sidesTo_succ, lenSum_app, lenSum_sides l i (by omega)]
    simp only [lenSum, sideOf]
    omega
theorem den_dvd (a b : Int) (hb : b ≠ 0) : ((Rat.divInt a b).den : Int) ∣ b := by
  rw [(rat_make a b hb).2]
  have : b.natAbs / Nat.gcd a.natAbs b.natAbs ∣ b.natAbs := Nat.div_dvd_of_dvd (Nat.gcd_dvd_right _ _)
  exact Int.dvd_natAbs.1 (Int.natCast_dvd_natCast.2 this)
theorem oneE_zero {x : Sd} (h1 : 1 ≤ x.n) (h2 : x.n ≤ 64) (h3 : (x.s.den : Int) ∣ x.n) : oneE x = 0 := by
  unfold oneE
  rw [if_neg (by omega), if_neg]
  have := Int.le_of_dvd (by omega) h3
  have := Int.emod_eq_zero_of_dvd h3
  omega
theorem oneFirst_zero : ∀ (l : List Sd), (∀ x ∈ l, oneE x = 0) → oneFirst l = 0
  | [], _ => rfl
  | x :: r, h => by
    unfold oneFirst
    rw [if_neg (by rw [h x (by simp)]; decide)]
    exact oneFirst_zero r (fun y hy => h y (List.mem_cons_of_mem _ hy))
/-- Sides between points at most 20 apart are a valid list. -/
theorem sides_ck0 (L : List Vtx) (n : Nat) (h21 : n ≤ 21) (hLn : L.length ≤ n) (hx : ∀ i (hi : i + 1 < L.length), L[i].x < L[i + 1].x) (hr : ∀ v ∈ L, 0 ≤ v.x ∧ v.x < (n : Int)) (hsm : ∀ s ∈ sidesOf L, s.s.den ≤ 2000000 ∧ s.s.num.natAbs ≤ 2000000 ∧ 0 < s.n ∧ s.n ≤ 2000000)
    (hasc : (sidesOf L).Pairwise (fun u v => u.s < v.s)) : ckS (sidesOf L) = 0 ∧ lenSum (sidesOf L) ≤ 20 ∧ ∀ x ∈ sidesOf L, SmS x := by
  have hl : (sidesOf L).length = L.length - 1 := by unfold sidesOf; rw [sidesTo_len]
  have hel : ∀ x ∈ sidesOf L, 1 ≤ x.n ∧ x.n ≤ 20 ∧ (x.s.den : Int) ∣ x.n := by
    intro s hs
    unfold sidesOf sidesTo at hs
    obtain ⟨i, hi, rfl⟩ := List.mem_map.1 hs
    rw [List.mem_range] at hi
    have hi0 : i < L.length := by omega
    have hi1 : i + 1 < L.length := by omega
    simp only [List.getD, List.getElem?_eq_getElem hi0, List.getElem?_eq_getElem hi1, Option.getD_some, sideOf]
    have r1 := hr _ (List.getElem_mem hi0)
    have r2 := hr _ (List.getElem_mem hi1)
    have := hx i hi1
    exact ⟨by omega, by omega, den_dvd _ _ (by omega)⟩
  have hsum : lenSum (sidesOf L) ≤ 20 := by
    by_cases h1 : 0 < L.length
    · unfold sidesOf
      rw [lenSum_sides L (L.length - 1) (by omega)]
      have e1 : L.getD (L.length - 1) ⟨0, 0⟩ = L[L.length - 1] := by simp [List.getD, List.getElem?_eq_getElem (show L.length - 1 < L.length by omega)]
      have e2 : L.getD 0 ⟨0, 0⟩ = L[0] := by simp [List.getD, List.getElem?_eq_getElem h1]
      rw [e1, e2]
      have r1 := hr _ (List.getElem_mem (show L.length - 1 < L.length by omega))
      have r2 := hr _ (List.getElem_mem h1)
      omega
    · have : L = [] := List.eq_nil_of_length_eq_zero (by omega)
      subst this
      decide
  refine ⟨?_, hsum, fun x hx => ?_⟩
  · unfold ckS
    rw [if_neg (by omega), oneFirst_zero _ (fun x hx => by obtain ⟨h1, h2, h3⟩ := hel x hx; exact oneE_zero h1 (by omega) h3), if_neg (fun h => h rfl), if_neg, if_neg (by omega)]
    intro h
    exact h (fun i hi => List.pairwise_iff_getElem.1 hasc i (i + 1) (by omega) hi (by omega))
  · obtain ⟨h1, h2, h3⟩ := hel x hx
    have h4 := hsm x hx
    have := Int.le_of_dvd (by omega) h3
    have := bl_small (n := x.s.num.natAbs) (by omega)
    exact ⟨by omega, by omega⟩
/-- The sides of a polynomial are a valid list. -/
theorem sides_ck {q : Nat} {g : List Int} (hq : 2 ≤ q) (hg : OkP g) (h0 : 0 < g.length) (h21 : g.length ≤ 21) :
    ckS (sidesOf (hull (pts q g))) = 0 ∧ lenSum (sidesOf (hull (pts q g))) ≤ 20 ∧ ∀ x ∈ sidesOf (hull (pts q g)), SmS x := by
  have hx := hull_inc (l := pts q g) (pts_from q 0 g).1
  have hpl := pts_len q 0 g
  change (pts q g).length ≤ g.length at hpl
  have hhl := hull_len (pts q g)
  refine sides_ck0 _ g.length h21 (by omega) hx (fun v hv => ?_) (sides_small (fun v hv => pts_small hq hg v (hull_mem hv)) hx) (sides_asc q g)
  have := (pts_from q 0 g).2 v (hull_mem hv)
  omega
theorem nz_of {g : List Int} (hg : OkP g) (h0 : 0 < g.length) : cf g (g.length - 1) ≠ 0 := by
  rw [cf_lt (by omega)]; exact hg.last h0
theorem dumas_run (H : Heap) (a b : Option Addr) (f g : List RI) (p : Int) (hs : SL H a f) (hs2 : SL H b g) (hl : f.length ≤ maxLen) (hl2 : g.length ≤ maxLen) (hp : I64 p) :
    ∃ fuel H', icall Tryz.prog md fuel H.length 10 [.slice a f.length f.length, .slice b g.length g.length, .int .i64 p] H = some (.bool true, H') := by
  have hl' : f.length ≤ 9223372036854775807 := Nat.le_trans hl (by decide)
  have hl2' : g.length ≤ 9223372036854775807 := Nat.le_trans hl2 (by decide)
  refine icall_yesD Tryz.func10 rfl ?_
  have k0 := fun lk H' => l13_awake lk H'
  have k1 := fun lk => l13_few lk H a f f.length 20 p rfl hl' (by omega) hs
  have k2 := fun lk => l13_few lk H b g g.length 20 p rfl hl2' (by omega) hs2
  simp only [show (((20 : Nat)) : Int) = 20 from rfl] at k1 k2
  cases hfew : fewP f p 20 with
  | false =>
    rw [hfew] at k1
    simp -dsimp only [go_sem, k0, k1]
  | true =>
  rw [hfew] at k1
  cases hfew2 : fewP g p 20 with
  | false =>
    rw [hfew2] at k2
    simp -dsimp only [go_sem, k0, k1, k2]
  | true =>
  rw [hfew2] at k2
  obtain ⟨u, q, rfl, rfl, hu, q2, q3, q4, u0, u21, u8⟩ := fewP_ok hfew
  obtain ⟨v, q', rfl, hqq, hv, _, _, _, v0, v21, v8⟩ := fewP_ok hfew2
  obtain rfl : q = q' := by omega
  rw [List.length_map] at *
  rw [List.length_map]
  have kS1 := fun lk => (p_Sides lk H a (u.map ofI) u.length (q : Int) (by rw [List.length_map]) (by omega) hs).2 u q rfl rfl hu q2 q3 q4 u0
  obtain ⟨ca, sa, ma⟩ := sides_ck q2 hu u0 u21
  obtain ⟨cb, sb, mb⟩ := sides_ck q2 hv v0 v21
  have hd := fun (l : List Sd) => dumas q4 ⟨_, nz_of hu u0⟩ ⟨_, nz_of hv v0⟩ (l := l)
  have hlast : cf (mulP u v) (u.length + v.length - 2) ≠ 0 := by
    rw [cf_mulP, mulC_top u v u0 v0]
    exact Int.mul_ne_zero (nz_of hu u0) (nz_of hv v0)
  have hml := mulP_len u v
  have hmo : OkP (mulP u v) := by
    refine ⟨by omega, fun z hz => ?_, fun h => ?_⟩
    · have := mulP_small u8 v8 (by omega) u0 z hz
      omega
    · rw [← cf_lt (by omega), hml, show u.length + v.length - 1 - 1 = u.length + v.length - 2 by omega]
      exact hlast
  generalize hA : sidesOf (hull (pts q u)) = A at *
  generalize hB : sidesOf (hull (pts q v)) = B at *
  generalize hM : sidesOf (hull (pts q (mulP u v))) = M at *
  have hE1 : Ext H (H ++ mkN A) := Ext.app _ _
  have kS2 := fun lk => (p_Sides lk (H ++ mkN A) b (v.map ofI) v.length (q : Int) (by rw [List.length_map]) (by omega) (hE1.sl hs2)).2 v q rfl rfl hv q2 q3 q4 v0
  rw [hB] at kS2
  have hE2 : Ext H (H ++ mkN A ++ mkN B) := hE1.more _
  have hEA : Ext (H ++ mkN A) (H ++ mkN A ++ mkN B) := Ext.app _ _
  obtain ⟨s, sp, ss, kSum⟩ := p_Sum H.length (H ++ mkN A ++ mkN B) (mkA H A) (mkA (H ++ mkN A) B) A B (hEA.sl (mk_sl H A)) (mk_sl _ B) ma mb ca cb (by omega)
  have hds := hd s sp ss
  rw [hds] at kSum
  have hE3 : Ext H (H ++ mkN A ++ mkN B ++ mkN M) := hE2.more _
  have kM := fun lk => r11_Mul lk (H ++ mkN A ++ mkN B ++ mkN M) a b u v u.length v.length 8 8 rfl rfl (by omega) (by omega) (by decide) (by decide) u8 v8 u0 v0 (nz_of hu u0) (nz_of hv v0) (hE3.sl hs.ofI) (hE3.sl hs2.ofI)
  generalize hW : mulP u v = W at *
  have hW0 : 0 < W.length := by omega
  have kS3 := fun lk => (p_Sides lk (H ++ mkN A ++ mkN B ++ mkN M ++ mkN W) (mkA (H ++ mkN A ++ mkN B ++ mkN M) W) (W.map ofI) W.length (q : Int) (by rw [List.length_map]) (by omega) (mk_sl _ W).toI).2 W q rfl rfl hmo q2 q3 q4 hW0
  rw [hM] at kS3
  have hsl1 : SL (H ++ mkN A ++ mkN B ++ mkN M ++ mkN W ++ mkN M) (mkA (H ++ mkN A ++ mkN B) M) M := ((Ext.app (H ++ mkN A ++ mkN B ++ mkN M) (mkN W)).more (mkN M)).sl (mk_sl _ M)
  have hsl2 := mk_sl (H ++ mkN A ++ mkN B ++ mkN M ++ mkN W) M
  have hMl : M.length ≤ 9223372036854775807 := by
    rw [← hM]
    have h1 := pts_len q 0 W
    change (pts q W).length ≤ W.length at h1
    have h2 := hull_len (pts q W)
    unfold sidesOf
    rw [sidesTo_len]
    omega
  have kQ := fun lk => r13_Same lk _ _ _ M M M.length M.length rfl rfl hMl hsl1 hsl2
  have hdec : decide (M = M) = true := decide_eq_true rfl
  rw [hdec] at kQ
  simp only [List.append_assoc] at kS1 kS2 kSum kM kS3 kQ
  simp -dsimp only [go_sem, k0, k1, k2, kS1, kS2, kSum, kM, kS3, kQ]
end Gx
end
