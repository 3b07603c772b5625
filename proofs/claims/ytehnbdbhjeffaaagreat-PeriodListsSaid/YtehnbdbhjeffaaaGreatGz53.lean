/- The law PeriodLists. -/
import Derived.Test.YtehnbdbhjeffaaaGreatGz52
set_option linter.all false
set_option linter.unusedVariables false
set_option linter.unusedSimpArgs false
set_option linter.unnecessarySimpa false
set_option linter.deprecated false
section
set_option autoImplicit false
namespace Gx
open Go Go.Proofs
set_option maxRecDepth 10000
theorem icall_yes {P : Program} {md : Md} {lk : Nat} {g : FuncId} {fn : Func} {body : Code} {args : List Value} {H : Heap} (hg : P.funcs[g]? = some fn) (hb : fn.body = some body) (h : Runs P md lk body (args0 args) H (Ends P fn fun u _ => u = .bool true)) : ∃ n H', icall P md n lk g args H = some (.bool true, H') := by
  obtain ⟨n, v, H', h1, h2⟩ := icall_of hg hb h
  exact ⟨n, H', by rw [h1, h2]⟩
theorem perL_len (p f : Nat) (a : Int) : (perL p f a).length ≤ p - 1 := by
  unfold perL
  rw [List.length_take, difL_len]; omega
theorem persL_len (p f : Nat) : (persL p f).length = (p - 1) / f := by unfold persL; rw [List.length_map, pw_len2]
theorem persL_mem {p f : Nat} {r : List Rat} (h : r ∈ persL p f) : r.length ≤ p - 1 := by
  unfold persL at h
  obtain ⟨y, _, rfl⟩ := List.mem_map.1 h
  exact perL_len p f y
theorem lists_run (H : Heap) (p f a : Int) (hf : I64 f) : ∃ fuel H', icall Tryz.prog mdO fuel H.length 6 [.int .i64 p, .int .i64 f, .int .i64 a] H = some (.bool true, H') := by
  refine icall_yes Tryz.func6 rfl ?_
  have k0 := fun lk H' => l48_awake lk H'
  have kt := fun lk H' => gcall_up mdLe (r48_Terms lk H' p f)
  by_cases hc : pCkB p f = 0
  · rw [hc] at kt
    obtain ⟨h1, h2, h3, h4, h5⟩ := ckB_zero hc
    obtain ⟨q, rfl⟩ : ∃ q : Nat, p = (q : Int) := ⟨p.toNat, by omega⟩
    obtain ⟨n, rfl⟩ : ∃ n : Nat, f = (n : Int) := ⟨f.toNat, by omega⟩
    rw [Int.toNat_natCast] at h3
    have hn : n ≤ 9223372036854775807 := by have := hf.2; omega
    have hs1 : (subL q n).length ≤ q := subF_len _ _ _
    have hml : (mis (subL q n)).length = (subL q n).length := mis_len _
    have hpl := perL_len q n a
    have hps := persL_len q n
    have hpd : (q - 1) / n ≤ q - 1 := Nat.div_le_self _ _
    simp -dsimp only [go_sem]
    refine ob_yo (p_SubgroupOk h3 (by omega) hn hc H).o (Nat.le_refl _) ?_
    rintro v1 H1 hE1 ⟨w1, rfl, g1⟩
    have l1 := hE1.le
    simp -dsimp only [go_sem]
    refine ob_yo (p_PeriodOk h3 hn hc a H1).o (by omega) ?_
    rintro v2 H2 hE2 ⟨w2, rfl, g2⟩
    have l2 := hE2.le
    simp -dsimp only [go_sem]
    refine ob_yo (p_PeriodsO h3 (by omega) hn hc H2) (by omega) ?_
    rintro v3 H3 hE3 ⟨w3, rfl, g3⟩
    have l3 := hE3.le
    simp -dsimp only [go_sem, kt]
    refine ob_yo (r48_Subgroup h3 hn H3).o (by omega) ?_
    rintro v4 H4 hE4 g4
    have l4 := hE4.le
    have q1 := fun lk => gcall_up mdLe (s_EqI (g1.ext (hE2.trans (hE3.trans hE4))) g4.lv (by omega) (by omega) lk)
    rw [decide_eq_true rfl] at q1
    simp -dsimp only [go_sem, q1]
    refine ob_yo (r48_Period h3 hn a H4).o (by omega) ?_
    rintro v5 H5 hE5 g5
    have l5 := hE5.le
    rw [← perLR hc] at g5
    have q2 := fun lk => gcall_up mdLe (r6_Same (g2.ext (hE3.trans (hE4.trans hE5))) g5 (by omega) (by omega) lk)
    rw [decide_eq_true rfl] at q2
    simp -dsimp only [go_sem, q2]
    refine ob_yo (r48_Periods hc H5).o (by omega) ?_
    rintro v6 H6 hE6 g6
    have q3 := fun lk => gcall_up mdLe (s_EqF (g3.ext (hE4.trans (hE5.trans hE6))) g6 (by omega) (by omega) (fun r hr => by have := persL_mem hr; omega) (fun r hr => by have := persL_mem hr; omega) lk)
    rw [decide_eq_true rfl] at q3
    simp -dsimp only [go_sem, q3, k0]
  · have k1 := fun lk H' => gcall_up mdLe (p_SubgroupBad lk H' p f hc)
    have k2 := fun lk H' => gcall_up mdLe (p_PeriodBad lk H' p f a hc)
    simp -dsimp only [go_sem, k1, k2]
    refine ob_yo (p_PeriodsBad H p f hc) (Nat.le_refl _) ?_
    rintro v3 H3 hE3 rfl
    simp -dsimp only [go_sem, kt, hc, k0]
end Gx
end
