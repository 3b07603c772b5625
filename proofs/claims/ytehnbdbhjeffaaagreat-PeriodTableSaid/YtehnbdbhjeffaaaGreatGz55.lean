/- PeriodTable returns true for every input, and leaves its arguments as they were. -/
import Derived.Test.YtehnbdbhjeffaaaGreatGz39
import Derived.Test.YtehnbdbhjeffaaaGreatGz43
import Derived.Test.YtehnbdbhjeffaaaGreatGz54
import Derived.Test.YtehnbdbhjeffaaaGreatRows
import Derived.ProofKit
import Derived.OpenShut
import Derived.ChangeOld
import Derived.Below
import Derived.SizedLaws
set_option linter.all false
set_option linter.unusedVariables false
set_option linter.unusedSimpArgs false
set_option linter.unnecessarySimpa false
set_option linter.deprecated false
section
namespace Go.Proofs.YtehnbdbhjeffaaaGreat.periodTable
open Go.ChangeShapes Go.WideShapes Go.ChangeAt Go.RowKit
set_option linter.unusedVariables false
theorem own : ownKnob Tryz.prog.godebug = none := by kernel_rfl
theorem laidOut : laidOutB Tryz.prog = true := by kernel_rfl
theorem imp0 : Gx.imp Tryz.prog 5 58 = true := by kernel_rfl
theorem imp1 : Gx.imp Tryz.prog 5 59 = true := by kernel_rfl
theorem imp2 : Gx.imp Tryz.prog 5 5 = true := by kernel_rfl
theorem read0 : Tryz.prog.readableRec 58 = true := by kernel_rfl
theorem read1 : Tryz.prog.readableRec 59 = true := by kernel_rfl
theorem read2 : Tryz.prog.readableRec 5 = true := by kernel_rfl
theorem size0 : decide (58 < Tryz.prog.types.size) = true := by kernel_rfl
theorem size1 : decide (59 < Tryz.prog.types.size) = true := by kernel_rfl
theorem size2 : decide (5 < Tryz.prog.types.size) = true := by kernel_rfl
theorem law (H : Gx.Heap) (args : List Value) (h : Gx.WVs Tryz.prog H 5 [58, 59, 5] args) : ∃ fuel H', Gx.icall Tryz.prog Gx.mdO fuel H.length 5 args H = some (.bool true, H') := by
  obtain ⟨v, x, y, rfl, h1, h2, h3⟩ := h.three
  obtain ⟨a, b, rfl, ha, hb⟩ := Gx.number_arg h1
  obtain ⟨w, l, rfl, hs, hl⟩ := Gx.i8s_arg h2
  obtain ⟨i, rfl, hi⟩ := Gx.u8_arg h3
  exact Gx.table_run H a b i w l ha hb hi hs hl
set_option maxRecDepth 100000 in
theorem lifted (os : Os) (started : os.Started) (H : Type) (enc : TypeId × Value → H) :
    ReturnsInHanded {} Tryz.checked os 5 .any (Rows.periodTableSpec.pre6 enc Tryz.prog Tryz.f5 Rows.periodTableRow.domain false) (Rows.periodTableSpec.post enc Tryz.prog Tryz.f5 false true false false) := by
  refine returnsInHanded_of_change_sized (C := Tryz.checked) own started (by kernel_rfl) Tryz.func5
    (ChangeSpec.witness6 (enc := enc) (C := Tryz.checked) false ⟨#[], #[.agg (List.toArray [.int .u8 0, .int .u8 0]), .slice none 0 0, .int .u8 0], []⟩ 8 (by kernel_rfl) (by kernel_rfl) (by kernel_rfl) (by kernel_rfl)) ?_
  intro W base args ds gs before hval0 hW hcnd hsz0 _
  have hval : ∀ (j : Nat) t v, Tryz.f5.params.toList[j]? = some t → args[j]? = some v → Value.okWide Tryz.prog W .any base t v := by
    intro j t v h1 h2
    exact hval0 j t v (by simpa using h1) h2
  have hW' := hW
  obtain ⟨p, q, hA0, hV, rfl, hfz, hnd⟩ := hW
  have hA : DataW.TrodAll enc Tryz.prog W 0 (fun _ => true) true Tryz.f5.params.toList args.toList ds p := hA0
  rw [Tryz.params5] at hA hval
  obtain ⟨v0, vs0, d0, ds0, p0, q0, hargs, rfl, rfl, h0, r0⟩ := trodAll_cons hA
  obtain ⟨v1, vs1, d1, ds1, p1, q1, rfl, rfl, rfl, h1, r1⟩ := trodAll_cons r0
  obtain ⟨v2, vs2, d2, ds2, p2, q2, rfl, rfl, rfl, h2, r2⟩ := trodAll_cons r1
  obtain ⟨rfl, rfl, rfl⟩ := trodAll_nil r2
  obtain ⟨rfl, rfl⟩ := trodVars_none hV
  refine (Gx.law_calls Gx.orcOk Gx.wfp Gx.wfm Gx.mixO (by decide) Tryz.func5 (n := 5) (by
    intro t ht
    simp only [List.mem_cons, List.not_mem_nil, or_false] at ht
    rcases ht with rfl | rfl | rfl
    · exact imp0
    · exact imp1
    · exact imp2) law hA hval).mono fun e W' ⟨he, bel⟩ => ?_
  subst he
  have back := Gx.args_stay laidOut bel _ _ _ _ (by
    intro t ht
    simp only [List.mem_cons, List.not_mem_nil, or_false] at ht
    rcases ht with rfl | rfl | rfl
    · exact ⟨read0, of_decide_eq_true size0⟩
    · exact ⟨read1, of_decide_eq_true size1⟩
    · exact ⟨read2, of_decide_eq_true size2⟩) hA
  exact ⟨_, rfl, _, _, _, [], _, [], hW', trodAll_mk1 (shut_bool Tryz.underlying4 _), back, rfl, bel.frame _, fun h => by cases h⟩
theorem u1 : (Rows.periodTableRow.inPlace == Tryz.pinned.checked.prog.inPlace 5) = true := by kernel_rfl
theorem u2 : (Rows.periodTableRow.unfollowed == Tryz.pinned.checked.prog.unfollowed 5) = true := by kernel_rfl
theorem u3 : (Rows.periodTableRow.recurses == Tryz.pinned.checked.prog.recurses 5) = true := by kernel_rfl
theorem u4 : (Rows.periodTableRow.named == Tryz.pinned.checked.prog.varsNamed 5) = true := by kernel_rfl
theorem closed : joinedFacts Tryz.pinned.checked.prog 5 Tryz.f5 Rows.periodTableSpec Rows.periodTableRow = true := by
  unfold joinedFacts
  rw [u1, u2, u3, u4]
  kernel_rfl
theorem over : Rows.periodTableRow.holds Tryz.pinned (OpenSpec.ofChange Rows.periodTableSpec) :=
  OpenClaim.holds_of_wide 5 Tryz.f5 rfl rfl rfl rfl rfl rfl rfl ⟨rfl, rfl, rfl, rfl, rfl⟩ rfl rfl rfl rfl rfl (by kernel_rfl) Tryz.func5 closed
    (of_decide_eq_true (by kernel_rfl)) (by unfold Func.isWrapper; first | (rw [if_pos (by decide +kernel)]; kernel_rfl) | (rw [if_neg (by decide +kernel)]; exact ⟨rfl, rfl⟩))
    (fun os started H enc _ => lifted os started H enc)
end Go.Proofs.YtehnbdbhjeffaaaGreat.periodTable
namespace Go.Proofs.YtehnbdbhjeffaaaGreat
theorem periodTable_holds : Rows.PeriodTableSaid := periodTable.over
#print axioms periodTable_holds
end Go.Proofs.YtehnbdbhjeffaaaGreat
end
