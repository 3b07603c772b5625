/- The law Sums. -/
import Derived.Test.YtchpchjcghongaaGreatGz17
import Derived.Test.YtchpchjcghongaaGreatGz21
import Derived.Test.YtchpchjcghongaaGreatGz42
set_option linter.all false
set_option linter.unusedVariables false
set_option linter.unusedSimpArgs false
set_option linter.unnecessarySimpa false
set_option linter.deprecated false
section
set_option autoImplicit false
namespace Gx
open Go Go.Proofs
set_option maxRecDepth 10000
theorem icall_yesS {P : Program} {md : FuncId → Nat} {lk : Nat} {g : FuncId} {fn : Func} {body : Code} {args : List Value} {H : Heap} (hg : P.funcs[g]? = some fn) (hb : fn.body = some body) (h : Runs P md lk body (args0 args) H (Ends P fn fun u _ => u = .bool true)) : ∃ n H', icall P md n lk g args H = some (.bool true, H') := by
  obtain ⟨n, v, H', h1, h2⟩ := icall_of hg hb h
  exact ⟨n, H', by rw [h1, h2]⟩
theorem ckX_zero {f : List RS} (hf : ∀ x ∈ f, ShR x) (h : ckX f = 0) : f.length ≤ 64 ∧ (∀ x ∈ f, oneX x = 0) ∧ ckS (f.map sdOf) = 0 ∧ ∀ s ∈ f.map sdOf, SmS s := by
  unfold ckX at h
  by_cases h1 : 64 < f.length
  · rw [if_pos h1] at h; cases h
  · rw [if_neg h1] at h
    by_cases h2 : firstX f ≠ 0
    · rw [if_pos h2] at h; exact absurd h h2
    · rw [if_neg h2] at h
      have hz := firstX_zero (Classical.not_not.1 h2)
      exact ⟨by omega, hz, h, fun s hs => (sides_small2 hf hz s hs).1⟩
/-- However the sides are sorted, put together they are what the reference keeps. -/
theorem mg_out {l s out : List Sd} (hl : s.Perm l) (hs : s.Pairwise (fun u v => u.s ≤ v.s)) (hp : ∀ x ∈ l, 0 < x.n) (ho : OutOk out l) : mg s = out := by
  obtain ⟨h1, h2, h3, _⟩ := mg_ok s hs (fun x hx => hp x (hl.mem_iff.1 hx))
  exact sums_ext h1 ho.asc h2 ho.pos (fun r => by rw [h3, sumAt_perm hl, ho.sum])
theorem sums_run (H : Heap) (a b : Option Addr) (f g : List RS) (hs : SL H a f) (hs2 : SL H b g) (hl : f.length ≤ maxLen) (hl2 : g.length ≤ maxLen) :
    ∃ fuel H', icall Tryz.prog md fuel H.length 9 [.slice a f.length f.length, .slice b g.length g.length] H = some (.bool true, H') := by
  have hl' : f.length ≤ 9223372036854775807 := Nat.le_trans hl (by decide)
  have hl2' : g.length ≤ 9223372036854775807 := Nat.le_trans hl2 (by decide)
  refine icall_yesS Tryz.func9 rfl ?_
  have k0 := fun lk H' => l13_awake lk H'
  have k1 := fun lk => l13_long lk H a f hl' hs
  have k2 := fun lk => l13_long lk H b g hl2' hs2
  cases hlong : longB f with
  | true =>
    rw [hlong] at k1
    simp -dsimp only [go_sem, k0, k1]
  | false =>
  rw [hlong] at k1
  cases hlong2 : longB g with
  | true =>
    rw [hlong2] at k2
    simp -dsimp only [go_sem, k0, k1, k2]
  | false =>
  rw [hlong2] at k2
  obtain ⟨_, hsf⟩ := longB_no hlong
  obtain ⟨_, hsg⟩ := longB_no hlong2
  have kc1 := fun lk H' (hE : Ext H H') => p_CheckX lk H' a f hl' hsf (hE.sl hs)
  have kc2 := fun lk H' (hE : Ext H H') => p_CheckX lk H' b g hl2' hsg (hE.sl hs2)
  have kr1 := fun lk H' (hE : Ext H H') => r13_CheckX lk H' a f hl' hsf (hE.sl hs)
  have kr2 := fun lk H' (hE : Ext H H') => r13_CheckX lk H' b g hl2' hsg (hE.sl hs2)
  have hE0 := Ext.refl H
  by_cases hA : ckX f = 0
  case neg =>
    have f1 : (ckX f = 0) = False := eq_false hA
    have kS := p_SumE1 H.length H a b f.length g.length (ckX f) hA kc1
    have kD := p_DegE H.length H a f.length (ckX f) hA (fun lk => kc1 lk H hE0)
    have kc := kc1 H.length H hE0
    have kr := kr1 H.length H hE0
    have f2 : (ckX f = ckX f) = True := eq_self _
    simp -dsimp only [go_sem, k0, k1, k2, kS, kD, kc, kr, f1, f2]
  have f1 : (ckX f = 0) = True := eq_true hA
  obtain ⟨la, za, ca, ma⟩ := ckX_zero hsf hA
  have sA := fun H' (hE : Ext H H') => SL.sides (hE.sl hs) za
  have hlA : (f.map sdOf).length = f.length := List.length_map _
  have hfA : f.length = (f.map sdOf).length := hlA.symm
  obtain ⟨nA, pA, bA, _⟩ := ckS_ok ca
  have kc1' := fun lk H' (hE : Ext H H') => kc1 lk H' hE
  have kr1' := fun lk H' (hE : Ext H H') => kr1 lk H' hE
  rw [hA] at kc1' kr1'
  generalize hAe : f.map sdOf = A at *
  rw [hfA] at kc1' kr1'
  -- what Degrees answers, in any heap
  have kD := fun lk H' (hE : Ext H H') => (p_Degrees lk H' a A A.length rfl (by omega) ma (sA H' hE)).2 ca
  have kRD := fun lk H' (hE : Ext H H') => r13_Degrees lk H' a A ca ma (sA H' hE)
  have hdl : (degs A).length ≤ 65 := by unfold degs; exact degsTo_len _ _
  have kSame : ∀ lk (H1 : Heap), gcall Tryz.prog md lk 69 [.slice (mkA H1 (degs A)) (degs A).length (degs A).length, .slice (mkA (H1 ++ mkN (degs A)) (degs A)) (degs A).length (degs A).length] (H1 ++ mkN (degs A) ++ mkN (degs A)) = some (.bool true, H1 ++ mkN (degs A) ++ mkN (degs A)) := fun lk H1 => by
    have := l13_same lk (H1 ++ mkN (degs A) ++ mkN (degs A)) _ _ (degs A) (degs A) _ _ rfl rfl (by omega) ((Ext.app (H1 ++ mkN (degs A)) (mkN (degs A))).sl (mk_sl H1 (degs A))) (mk_sl (H1 ++ mkN (degs A)) (degs A))
    rw [decide_eq_true rfl] at this
    exact this
  by_cases hB : ckX g = 0
  case neg =>
    have f2 : (ckX g = 0) = False := eq_false hB
    have f3 : (ckX g = ckX g) = True := eq_self _
    have kS := p_SumE2 H.length H a b A g.length (sA H hE0) ma ca (ckX g) hB kc2
    have d1 := kD H.length H hE0
    have c1 := kc1' H.length (H ++ mkN (degs A)) (Ext.app _ _)
    have r1 := kr1' H.length (H ++ mkN (degs A)) (Ext.app _ _)
    have d2 := kRD H.length (H ++ mkN (degs A)) (Ext.app _ _)
    have s1 := kSame H.length H
    have r2 := kr2 H.length (H ++ mkN (degs A) ++ mkN (degs A)) ((Ext.app _ _).more _)
    simp only [List.append_assoc] at d2 s1 r2
    rw [hfA]
    rw [hfA] at k1
    simp -dsimp only [go_sem, k0, k1, k2, kS, d1, c1, r1, d2, s1, r2, f2, f3]
  have f2 : (ckX g = 0) = True := eq_true hB
  obtain ⟨lb, zb, cb, mb⟩ := ckX_zero hsg hB
  have sB := fun H' (hE : Ext H H') => SL.sides (hE.sl hs2) zb
  have hlB : (g.map sdOf).length = g.length := List.length_map _
  have hfB : g.length = (g.map sdOf).length := hlB.symm
  obtain ⟨nB, pB, bB, _⟩ := ckS_ok cb
  have kr2' := fun lk H' (hE : Ext H H') => kr2 lk H' hE
  rw [hB] at kr2'
  generalize hBe : g.map sdOf = B at *
  rw [hfB] at kr2'
  have kL1 := fun lk H' (hE : Ext H H') => r13_Length lk H' a A (by omega) pA bA (sA H' hE)
  have kL2 := fun lk H' (hE : Ext H H') => r13_Length lk H' b B (by omega) pB bB (sB H' hE)
  have q1 := (lenSum_nonneg A pA).1
  have q2 := (lenSum_nonneg B pB).1
  have e1 : IntKind.i64.wrap (lenSum A + lenSum B) = lenSum A + lenSum B := w64 (by omega) (by omega)
  by_cases h64 : 64 < lenSum A + lenSum B
  · have f4 : (64 < lenSum A + lenSum B) = True := eq_true h64
    have kS := p_SumBig H.length H a b A B (sA H hE0) (sB H hE0) ma mb ca cb h64
    have d1 := kD H.length H hE0
    have c1 := kc1' H.length (H ++ mkN (degs A)) (Ext.app _ _)
    have r1 := kr1' H.length (H ++ mkN (degs A)) (Ext.app _ _)
    have d2 := kRD H.length (H ++ mkN (degs A)) (Ext.app _ _)
    have s1 := kSame H.length H
    have hE3 : Ext H (H ++ mkN (degs A) ++ mkN (degs A)) := (Ext.app _ _).more _
    have r2 := kr2' H.length _ hE3
    have l1 := kL1 H.length _ hE3
    have l2 := kL2 H.length _ hE3
    simp only [List.append_assoc] at d2 s1 r2 l1 l2
    rw [hfA, hfB]
    rw [hfA] at k1
    rw [hfB] at k2
    simp -dsimp only [go_sem, k0, k1, k2, kS, d1, c1, r1, d2, s1, r2, l1, l2, e1, f4]
  · have f4 : (64 < lenSum A + lenSum B) = False := eq_false h64
    obtain ⟨s, sp, ss, kS⟩ := p_Sum H.length H a b A B (sA H hE0) (sB H hE0) ma mb ca cb (by omega)
    have hpos : ∀ x ∈ A ++ B, 0 < x.n := fun x hx => by
      rcases List.mem_append.1 hx with h | h
      · exact pA x h
      · exact pB x h
    have hsh : ∀ x ∈ A ++ B, ShS x := fun x hx => by
      have h : SmS x := by
        rcases List.mem_append.1 hx with h | h
        · exact ma x h
        · exact mb x h
      have := bl_of_small h.2
      have := h.1
      exact ⟨by omega, by omega⟩
    have hE1 : Ext H (H ++ mkN (mg s)) := Ext.app _ _
    have d1 := kD H.length _ hE1
    have hE2 : Ext H (H ++ mkN (mg s) ++ mkN (degs A)) := hE1.more _
    have c1 := kc1' H.length _ hE2
    have r1 := kr1' H.length _ hE2
    have d2 := kRD H.length _ hE2
    have s1 := kSame H.length (H ++ mkN (mg s))
    have hE3 : Ext H (H ++ mkN (mg s) ++ mkN (degs A) ++ mkN (degs A)) := hE2.more _
    have r2 := kr2' H.length _ hE3
    have l1 := kL1 H.length _ hE3
    have l2 := kL2 H.length _ hE3
    obtain ⟨out, ho, kR⟩ := r13_Sum H.length (H ++ mkN (mg s) ++ mkN (degs A) ++ mkN (degs A)) a b A B (sA _ hE3) (sB _ hE3) (by omega) (by omega) hpos hsh (by rw [lenSum_app]; omega)
    have hmo := mg_out sp ss hpos ho
    rw [hmo] at kS d1 c1 r1 d2 s1 r2 l1 l2 kR
    have hol : out.length ≤ 9223372036854775807 := by have := ho.cnt; rw [List.length_append] at this; omega
    have kQ := r13_Same H.length (H ++ mkN out ++ mkN (degs A) ++ mkN (degs A) ++ mkN out) (mkA H out) (mkA (H ++ mkN out ++ mkN (degs A) ++ mkN (degs A)) out) out out out.length out.length rfl rfl hol
      ((((Ext.app (H ++ mkN out) (mkN (degs A))).more (mkN (degs A))).more (mkN out)).sl (mk_sl H out)) (mk_sl _ out)
    rw [decide_eq_true rfl] at kQ
    simp only [List.append_assoc] at d1 c1 r1 d2 s1 r2 l1 l2 kR kQ
    rw [hfA, hfB]
    rw [hfA] at k1
    rw [hfB] at k2
    simp -dsimp only [go_sem, k0, k1, k2, kS, d1, c1, r1, d2, s1, r2, l1, l2, e1, f4, kR, kQ]
end Gx
end
