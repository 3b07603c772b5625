/- The law Vertices. -/
import Derived.Test.YtchpchjcghongaaGreatGz18
import Derived.Test.YtchpchjcghongaaGreatGz39
set_option linter.all false
set_option linter.unusedVariables false
set_option linter.unusedSimpArgs false
set_option linter.unnecessarySimpa false
set_option linter.deprecated false
section
set_option autoImplicit false
namespace Gx
open Go Go.Proofs
set_option maxRecDepth 10000
theorem icall_yes {P : Program} {md : FuncId → Nat} {lk : Nat} {g : FuncId} {fn : Func} {body : Code} {args : List Value} {H : Heap} (hg : P.funcs[g]? = some fn) (hb : fn.body = some body) (h : Runs P md lk body (args0 args) H (Ends P fn fun u _ => u = .bool true)) : ∃ n H', icall P md n lk g args H = some (.bool true, H') := by
  obtain ⟨n, v, H', h1, h2⟩ := icall_of hg hb h
  exact ⟨n, H', by rw [h1, h2]⟩
theorem vertices_run (H : Heap) (a : Option Addr) (f : List RI) (p : Int) (hs : SL H a f) (hl : f.length ≤ maxLen) :
    ∃ fuel H', icall Tryz.prog md fuel H.length 4 [.slice a f.length f.length, .int .i64 p] H = some (.bool true, H') := by
  have hl' : f.length ≤ 9223372036854775807 := Nat.le_trans hl (by decide)
  refine icall_yes Tryz.func4 rfl ?_
  have k0 := fun lk H' => l13_awake lk H'
  have k1 := fun lk => l13_short lk H a f f.length 80 20 rfl hl' hs
  simp only [show (((80 : Nat)) : Int) = 80 from rfl, show (((20 : Nat)) : Int) = 20 from rfl] at k1
  cases hsh : shortB f 80 20 with
  | false =>
    rw [hsh] at k1
    simp -dsimp only [go_sem, k0, k1]
  | true =>
    rw [hsh] at k1
    by_cases he : nck f p = 0
    · obtain ⟨g, q, rfl, hg, rfl, q2, q3, q4, g0⟩ := nck_bad he
      rw [List.length_map] at *
      have k2 := fun lk => (p_Points lk H a (g.map ofI) g.length (q : Int) (by rw [List.length_map]) hl' hs).2 g q rfl rfl hg q2 q3 q4 g0
      have k3 := fun lk => (p_Vertices lk (H ++ mkN (pts q g)) a (g.map ofI) g.length (q : Int) (by rw [List.length_map]) hl' ((Ext.app _ _).sl hs)).2 g q rfl rfl hg q2 q3 q4 g0
      have k4 := fun lk => (p_Sides lk (H ++ mkN (pts q g) ++ mkN (hull (pts q g))) a (g.map ofI) g.length (q : Int) (by rw [List.length_map]) hl' (((Ext.app _ _).trans (Ext.app _ _)).sl hs)).2 g q rfl rfl hg q2 q3 q4 g0
      have sP : SL (H ++ mkN (pts q g) ++ mkN (hull (pts q g)) ++ mkN (sidesOf (hull (pts q g)))) (mkA H (pts q g)) (pts q g) := ((Ext.app _ _).trans (Ext.app _ _)).sl (mk_sl _ _)
      have sV : SL (H ++ mkN (pts q g) ++ mkN (hull (pts q g)) ++ mkN (sidesOf (hull (pts q g)))) (mkA (H ++ mkN (pts q g)) (hull (pts q g))) (hull (pts q g)) := (Ext.app _ _).sl (mk_sl _ _)
      have sS : SL (H ++ mkN (pts q g) ++ mkN (hull (pts q g)) ++ mkN (sidesOf (hull (pts q g)))) (mkA (H ++ mkN (pts q g) ++ mkN (hull (pts q g))) (sidesOf (hull (pts q g)))) (sidesOf (hull (pts q g))) := mk_sl _ _
      have sF : SL (H ++ mkN (pts q g) ++ mkN (hull (pts q g)) ++ mkN (sidesOf (hull (pts q g)))) a (g.map ofI) := (((Ext.app _ _).trans (Ext.app _ _)).trans (Ext.app _ _)).sl hs
      have lP : (pts q g).length ≤ 9223372036854775807 := by
        have := pts_len q 0 g
        change (pts q g).length ≤ g.length at this
        omega
      have lV : (hull (pts q g)).length ≤ 9223372036854775807 := Nat.le_trans (hull_len _) lP
      have lS : (sidesOf (hull (pts q g))).length ≤ 9223372036854775807 := by
        unfold sidesOf; rw [sidesTo_len]; omega
      simp only [List.append_assoc] at k3 k4 sP sV sS sF
      have k5 := fun lk => p_IsPure lk _ a g q g.length rfl sF.ofI hg q2 q3 q4 g0
      have k6 := fun lk => r13_CheckPoints lk _ a (g.map ofI) g.length (q : Int) (by rw [List.length_map]) hl' sF
      rw [he] at k6
      simp -dsimp only [go_sem, k0, k1, k2, k3, k4, k5, k6]
      clear k2 k3 k4 k5 k6
      generalize mkA H (pts q g) = aP at *
      generalize mkA (H ++ mkN (pts q g)) (hull (pts q g)) = aV at *
      generalize mkA (H ++ (mkN (pts q g) ++ mkN (hull (pts q g)))) (sidesOf (hull (pts q g))) = aS at *
      generalize H ++ (mkN (pts q g) ++ (mkN (hull (pts q g)) ++ mkN (sidesOf (hull (pts q g))))) = H1 at *
      have m1 := fun lk => r13_Points lk H1 a g g.length q rfl (by have := hg.len; omega) q2 (by omega) (fun z hz => by have := hg.small z hz; omega) sF.ofI
      have m2 := fun lk => r13_SameVertices lk (H1 ++ mkN (pts q g)) aP (mkA H1 (pts q g)) (pts q g) (pts q g) _ _ rfl rfl lP ((Ext.app _ _).sl sP) (mk_sl _ _)
      have m3 := fun lk => r13_Vertices lk (H1 ++ mkN (pts q g)) a g g.length q rfl q2 (by omega) hg ((Ext.app _ _).sl sF.ofI)
      have m4 := fun lk => r13_SameVertices lk (H1 ++ mkN (pts q g) ++ mkN (hull (pts q g))) aV (mkA (H1 ++ mkN (pts q g)) (hull (pts q g))) (hull (pts q g)) (hull (pts q g)) _ _ rfl rfl lV (((Ext.app _ _).trans (Ext.app _ _)).sl sV) (mk_sl _ _)
      have m5 := fun lk => r13_Sides lk (H1 ++ mkN (pts q g) ++ mkN (hull (pts q g))) a g g.length q rfl q2 (by omega) hg (((Ext.app _ _).trans (Ext.app _ _)).sl sF.ofI)
      have m6 := fun lk => r13_Same lk (H1 ++ mkN (pts q g) ++ mkN (hull (pts q g)) ++ mkN (sidesOf (hull (pts q g)))) aS (mkA (H1 ++ mkN (pts q g) ++ mkN (hull (pts q g))) (sidesOf (hull (pts q g)))) (sidesOf (hull (pts q g))) (sidesOf (hull (pts q g))) _ _ rfl rfl lS ((((Ext.app _ _).trans (Ext.app _ _)).trans (Ext.app _ _)).sl sS) (mk_sl _ _)
      have m7 := fun lk => r13_IsPure lk (H1 ++ mkN (pts q g) ++ mkN (hull (pts q g)) ++ mkN (sidesOf (hull (pts q g)))) a g q g.length rfl ((((Ext.app _ _).trans (Ext.app _ _)).trans (Ext.app _ _)).sl sF.ofI) hg q2 q3 g0
      rw [decide_eq_true rfl] at m2 m4 m6
      simp only [List.append_assoc] at m3 m4 m5 m6 m7
      simp -dsimp only [go_sem, m1, m2, m3, m4, m5, m6, m7]
      rw [beq_self_eq_true]
    · have f1 : (nck f p = 0) = False := eq_false he
      have f2 : (nck f p = nck f p) = True := eq_self _
      have k2 := fun lk => (p_Points lk H a f f.length p rfl hl' hs).1 he
      have k3 := fun lk => (p_Vertices lk H a f f.length p rfl hl' hs).1 he
      have k4 := fun lk => (p_Sides lk H a f f.length p rfl hl' hs).1 he
      have k5 := fun lk => p_IsPureBad lk H a f f.length p rfl hl' hs he
      have k6 := fun lk => r13_CheckPoints lk H a f f.length p rfl hl' hs
      simp -dsimp only [go_sem, k0, k1, k2, k3, k4, k5, k6, f1, f2]
end Gx
end
