/- PeriodPolynomials returns true for every input, and leaves its arguments as they were. -/
import Derived.Test.YtehnbdbhjeffaaaGreatGz37
import Derived.Test.YtehnbdbhjeffaaaGreatGz41
import Derived.Test.YtehnbdbhjeffaaaGreatGz52
import Derived.Test.YtehnbdbhjeffaaaGreatRows
import Derived.ProofKit
import Derived.OpenShut
import Derived.ChangeOld
import Derived.Below
import Derived.SizedLaws
set_option linter.all false
section
namespace Go.Proofs.YtehnbdbhjeffaaaGreat.periodPolynomials
open Go.ChangeShapes Go.WideShapes Go.ChangeAt Go.RowKit
set_option linter.unusedVariables false
theorem own : ownKnob Tryz.prog.godebug = none := by kernel_rfl
theorem laidOut : laidOutB Tryz.prog = true := by kernel_rfl
theorem imp0 : Gx.imp Tryz.prog 5 3 = true := by kernel_rfl
theorem imp1 : Gx.imp Tryz.prog 5 3 = true := by kernel_rfl
theorem read0 : Tryz.prog.readableRec 3 = true := by kernel_rfl
theorem read1 : Tryz.prog.readableRec 3 = true := by kernel_rfl
theorem size0 : decide (3 < Tryz.prog.types.size) = true := by kernel_rfl
theorem size1 : decide (3 < Tryz.prog.types.size) = true := by kernel_rfl
theorem law (H : Gx.Heap) (args : List Value) (h : Gx.WVs Tryz.prog H 5 [3, 3] args) : ∃ fuel H', Gx.q1k Tryz.prog Gx.mdO fuel H.length 3 args H = some (.bool true, H') := by
 obtain ⟨v, x, rfl, h1, h2⟩ := h.two
 obtain ⟨p, rfl, hp⟩ := Gx.int_arg h1
 obtain ⟨f, rfl, hf⟩ := Gx.int_arg h2
 exact Gx.polynomials_run H p f hp hf
set_option maxRecDepth 100000 in
theorem lifted (os : Os) (started : os.Started) (H : Type) (enc : TypeId × Value → H) :
  ReturnsInHanded {} Tryz.checked os 3 .any (Rows.periodPolynomialsSpec.pre6 enc Tryz.prog Tryz.f3 Rows.periodPolynomialsRow.domain false) (Rows.periodPolynomialsSpec.post enc Tryz.prog Tryz.f3 false true false false) := by
 refine returnsInHanded_of_change_sized (C := Tryz.checked) own started (by kernel_rfl) Tryz.func3
  (ChangeSpec.witness6 (enc := enc) (C := Tryz.checked) false ⟨#[], #[.int .i64 0, .int .i64 0], []⟩ 8 (by kernel_rfl) (by kernel_rfl) (by kernel_rfl) (by kernel_rfl)) ?_
 intro W base args ds gs before hval0 hW hcnd hsz0 _
 have hval : ∀ (j : Nat) t v, Tryz.f3.params.toList[j]? = some t → args[j]? = some v → Value.okWide Tryz.prog W .any base t v := by
  intro j t v h1 h2
  exact hval0 j t v (by simpa using h1) h2
 have hW' := hW
 obtain ⟨p, q, hA0, hV, rfl, hfz, hnd⟩ := hW
 have hA : DataW.TrodAll enc Tryz.prog W 0 (fun _ => true) true Tryz.f3.params.toList args.toList ds p := hA0
 rw [Tryz.params3] at hA hval
 obtain ⟨v0, vs0, d0, ds0, p0, q0, hargs, rfl, rfl, h0, r0⟩ := trodAll_cons hA
 obtain ⟨v1, vs1, d1, ds1, p1, q1, rfl, rfl, rfl, h1, r1⟩ := trodAll_cons r0
 obtain ⟨rfl, rfl, rfl⟩ := trodAll_nil r1
 obtain ⟨rfl, rfl⟩ := trodVars_none hV
 refine (Gx.law_calls Gx.orcOk Gx.wfp Gx.wfm Gx.mixO (by decide) Tryz.func3 (n := 5) (by
  intro t ht
  simp only [List.mem_cons, List.not_mem_nil, or_false] at ht
  rcases ht with rfl | rfl
  ·exact imp0
  ·exact imp1) law hA hval).mono fun e W' ⟨he, bel⟩ => ?_
 subst he
 have back := Gx.args_stay laidOut bel _ _ _ _ (by
  intro t ht
  simp only [List.mem_cons, List.not_mem_nil, or_false] at ht
  rcases ht with rfl | rfl
  ·exact ⟨read0, of_decide_eq_true size0⟩
  ·exact ⟨read1, of_decide_eq_true size1⟩) hA
 exact ⟨_, rfl, _, _, _, [], _, [], hW', trodAll_mk1 (shut_bool Tryz.underlying4 _), back, rfl, bel.frame _, fun h => by cases h⟩
theorem u1 : (Rows.periodPolynomialsRow.inPlace == Tryz.pinned.checked.prog.inPlace 3) = true := by kernel_rfl
theorem u2 : (Rows.periodPolynomialsRow.unfollowed == Tryz.pinned.checked.prog.unfollowed 3) = true := by kernel_rfl
theorem u3 : (Rows.periodPolynomialsRow.recurses == Tryz.pinned.checked.prog.recurses 3) = true := by kernel_rfl
theorem u4 : (Rows.periodPolynomialsRow.named == Tryz.pinned.checked.prog.varsNamed 3) = true := by kernel_rfl
theorem closed : joinedFacts Tryz.pinned.checked.prog 3 Tryz.f3 Rows.periodPolynomialsSpec Rows.periodPolynomialsRow = true := by
 unfold joinedFacts
 rw [u1, u2, u3, u4]
 kernel_rfl
theorem over : Rows.periodPolynomialsRow.holds Tryz.pinned (OpenSpec.ofChange Rows.periodPolynomialsSpec) :=
 OpenClaim.holds_of_wide 3 Tryz.f3 rfl rfl rfl rfl rfl rfl rfl ⟨rfl, rfl, rfl, rfl, rfl⟩ rfl rfl rfl rfl rfl (by kernel_rfl) Tryz.func3 closed
  (of_decide_eq_true (by kernel_rfl)) (by unfold Func.isWrapper; first | (rw [if_pos (by decide +kernel)]; kernel_rfl) | (rw [if_neg (by decide +kernel)]; exact ⟨rfl, rfl⟩))
  (fun os started H enc _ => lifted os started H enc)
end Go.Proofs.YtehnbdbhjeffaaaGreat.periodPolynomials
namespace Go.Proofs.YtehnbdbhjeffaaaGreat
theorem periodPolynomials_holds : Rows.PeriodPolynomialsSaid := periodPolynomials.over
#print axioms periodPolynomials_holds
end Go.Proofs.YtehnbdbhjeffaaaGreat
end
