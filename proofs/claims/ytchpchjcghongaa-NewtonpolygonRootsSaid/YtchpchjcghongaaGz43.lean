/- NewtonpolygonRoots returns true for every input, and leaves its arguments as they were. -/
import Derived.Test.YtchpchjcghongaaGz42
import Derived.Test.YtchpchjcghongaaRows
import Derived.ProofKit
import Derived.OpenShut
import Derived.ChangeOld
import Derived.Below
import Derived.SizedLaws
set_option linter.all false
set_option linter.unusedVariables false
set_option linter.unusedSimpArgs false
set_option linter.unnecessarySimpa false
set_option linter.deprecated false
section
namespace Go.Proofs.Ytchpchjcghongaa.newtonpolygonRoots
open Go.ChangeShapes Go.WideShapes Go.ChangeAt Go.RowKit
set_option linter.unusedVariables false
theorem own : ownKnob Try.prog.godebug = none := by kernel_rfl
theorem laidOut : laidOutB Try.prog = true := by kernel_rfl
theorem wf : Gx.wfProg Try.prog = true := by kernel_rfl
theorem wfm : Gx.wfMd Try.prog Gx.md = true := by kernel_rfl
theorem mixed : Try.prog.follows .mixedOrders = true := by kernel_rfl
theorem imp0 : Gx.imp Try.prog 5 22 = true := by kernel_rfl
theorem imp1 : Gx.imp Try.prog 5 5 = true := by kernel_rfl
theorem read0 : Try.prog.readableRec 22 = true := by kernel_rfl
theorem read1 : Try.prog.readableRec 5 = true := by kernel_rfl
theorem size0 : decide (22 < Try.prog.types.size) = true := by kernel_rfl
theorem size1 : decide (5 < Try.prog.types.size) = true := by kernel_rfl
theorem law (H : Gx.Heap) (args : List Value) (h : Gx.WVs Try.prog H 5 [22, 5] args) : ∃ fuel H', Gx.icall Try.prog Gx.md fuel H.length 3 args H = some (.bool true, H') := by
  obtain ⟨v, x, rfl, h1, h2⟩ := h.two
  obtain ⟨a, r, rfl, hs, hl⟩ := Gx.i16s_arg h1
  obtain ⟨p, rfl, hp⟩ := Gx.u8_arg h2
  exact Gx.roots_run H a r p hs hl hp
set_option maxRecDepth 100000 in
theorem lifted (os : Os) (started : os.Started) (H : Type) (enc : TypeId × Value → H) :
    ReturnsInHanded {} Try.checked os 3 .any (Rows.newtonpolygonRootsSpec.pre6 enc Try.prog Try.f3 Rows.newtonpolygonRootsRow.domain false) (Rows.newtonpolygonRootsSpec.post enc Try.prog Try.f3 false true false false) := by
  refine returnsInHanded_of_change_sized (C := Try.checked) own started (by kernel_rfl) Try.func3
    (ChangeSpec.witness6 (enc := enc) (C := Try.checked) false ⟨#[], #[.slice none 0 0, .int .u8 0], []⟩ 8 (by kernel_rfl) (by kernel_rfl) (by kernel_rfl) (by kernel_rfl)) ?_
  intro W base args ds gs before hval0 hW hcnd hsz0 _
  have hval : ∀ (j : Nat) t v, Try.f3.params.toList[j]? = some t → args[j]? = some v → Value.okWide Try.prog W .any base t v := by
    intro j t v h1 h2
    exact hval0 j t v (by simpa using h1) h2
  have hW' := hW
  obtain ⟨p, q, hA0, hV, rfl, hfz, hnd⟩ := hW
  have hA : DataW.TrodAll enc Try.prog W 0 (fun _ => true) true Try.f3.params.toList args.toList ds p := hA0
  rw [Try.params3] at hA hval
  obtain ⟨v0, vs0, d0, ds0, p0, q0, hargs, rfl, rfl, h0, r0⟩ := trodAll_cons hA
  obtain ⟨v1, vs1, d1, ds1, p1, q1, rfl, rfl, rfl, h1, r1⟩ := trodAll_cons r0
  obtain ⟨rfl, rfl, rfl⟩ := trodAll_nil r1
  obtain ⟨rfl, rfl⟩ := trodVars_none hV
  refine (Gx.law_calls wf wfm mixed (by decide) Try.func3 (n := 5) (by
    intro t ht
    simp only [List.mem_cons, List.not_mem_nil, or_false] at ht
    rcases ht with rfl | rfl
    · exact imp0
    · exact imp1) law hA hval).mono fun e W' ⟨he, bel⟩ => ?_
  subst he
  have back := Gx.args_stay laidOut bel _ _ _ _ (by
    intro t ht
    simp only [List.mem_cons, List.not_mem_nil, or_false] at ht
    rcases ht with rfl | rfl
    · exact ⟨read0, of_decide_eq_true size0⟩
    · exact ⟨read1, of_decide_eq_true size1⟩) hA
  exact ⟨_, rfl, _, _, _, [], _, [], hW', trodAll_mk1 (shut_bool Try.underlying4 _), back, rfl, bel.frame _, fun h => by cases h⟩
theorem over : Rows.newtonpolygonRootsRow.holds Try.pinned (OpenSpec.ofChange Rows.newtonpolygonRootsSpec) :=
  OpenClaim.holds_of_wide 3 Try.f3 rfl rfl rfl rfl rfl rfl rfl ⟨rfl, rfl, rfl, rfl, rfl⟩ rfl rfl rfl rfl rfl (by kernel_rfl) Try.func3 (by kernel_rfl)
    (of_decide_eq_true (by kernel_rfl)) (by unfold Func.isWrapper; first | (rw [if_pos (by decide +kernel)]; kernel_rfl) | (rw [if_neg (by decide +kernel)]; exact ⟨rfl, rfl⟩))
    (fun os started H enc _ => lifted os started H enc)
end Go.Proofs.Ytchpchjcghongaa.newtonpolygonRoots
namespace Go.Proofs.Ytchpchjcghongaa
theorem newtonpolygonRoots_holds : Rows.NewtonpolygonRootsSaid := newtonpolygonRoots.over
#print axioms newtonpolygonRoots_holds
end Go.Proofs.Ytchpchjcghongaa
end
