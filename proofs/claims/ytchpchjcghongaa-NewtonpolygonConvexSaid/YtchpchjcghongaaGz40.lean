/- Lemmas for Convex, part 40: an interpreter without world and addresses agrees with the given semantics; contracts of the functions that are reached. -/
import Derived.Test.YtchpchjcghongaaGz38
import Derived.Test.YtchpchjcghongaaGz39
set_option linter.all false
set_option linter.unusedVariables false
set_option linter.unusedSimpArgs false
set_option linter.unnecessarySimpa false
set_option linter.deprecated false
section
set_option autoImplicit false
namespace Gx
open Go Go.RowKit Go.Proofs
set_option maxRecDepth 10000
theorem vtx_eql (a b : Vtx) : ibin Try.prog .eql 49 (vV a) (vV b) = some (.bool (decide (a = b))) := by
  have h := vtx_neq a b
  rw [ibin_nea, sk_V] at h
  rw [ibin_eqa, sk_V]
  simp only [eqCells_int, eqCells_nil, Option.map_some, Bool.and_true] at h ⊢
  simp only [Option.some.injEq, Value.bool.injEq] at h ⊢
  have := congrArg (!·) h
  simpa using this
/-- What the statement asks of the points, the vertices and the sides. -/
structure CvxF (g : List Int) (P V : List Vtx) (S : List Sd) : Prop where
  p0 : 0 < P.length
  v0 : 0 < V.length
  pl : P.length ≤ 65
  vl : V.length ≤ 65
  sl : S.length = V.length - 1
  sm : ∀ v ∈ P, SmV v
  vmem : ∀ v ∈ V, v ∈ P
  first : ∀ (h : 0 < V.length) (h2 : 0 < P.length), V[0] = P[0]
  last : ∀ (h : V.length - 1 < V.length) (h2 : P.length - 1 < P.length), V[V.length - 1] = P[P.length - 1]
  pinc : ∀ i (h : i + 1 < P.length), P[i].x < P[i + 1].x
  vinc : ∀ i (h : i + 1 < V.length), V[i].x < V[i + 1].x
  idx : ∀ i (h : i < P.length), ∃ j, ∃ hj : j < g.length, P[i].x = (j : Int) ∧ g[j] ≠ 0 ∧ 0 ≤ P[i].y ∧ P[i].y ≤ 100
  side : ∀ i (h : i < S.length) (h2 : i + 1 < V.length), S[i] = sideOf V[i] V[i + 1]
  asc : ∀ i (h : i + 1 < S.length), S[i].s < S[i + 1].s
  above : ∀ i (h : i + 1 < V.length) k (hk : k < P.length), (V[i + 1].y - V[i].y) * (P[k].x - V[i].x) ≤ (P[k].y - V[i].y) * (V[i + 1].x - V[i].x)
theorem cvx_ok {g : List Int} {q : Nat} (hg : OkP g) (h2 : 2 ≤ q) (h5 : 0 < g.length) (h8 : ∀ z ∈ g, (bytes z.natAbs).length ≤ 8) : CvxF g (pts q g) (hull (pts q g)) (sidesOf (hull (pts q g))) := by
  have hp0 := pts_pos (p := q) hg h5
  have hinc := (pts_from q 0 g).1
  have hsm := pts_small h2 hg
  have hH := hull_HI (pts q g) hinc
  have hpl := pts_len q 0 g
  change (pts q g).length ≤ g.length at hpl
  have hgl := hg.len
  have hhl := hull_len (pts q g)
  have hidx : ∀ v ∈ pts q g, ∃ j, ∃ hj : j < g.length, v.x = (j : Int) ∧ g[j] ≠ 0 ∧ v.y = vp q g[j].natAbs := by
    intro v hv
    obtain ⟨j, hj, a, b, c⟩ := pts_idx (i := 0) hv
    exact ⟨j, hj, by rw [a]; congr 1; omega, b, c⟩
  change (pts q g).Pairwise _ at hinc
  generalize pts q g = P at *
  have hv0 : 0 < (hull P).length := (hH.first P[0] (List.getElem_mem hp0)).1
  have hHc := hH.chain
  have hHa := hH.above
  have hHf := hH.first
  have hHl := hH.last
  have hmem : ∀ v ∈ hull P, v ∈ P := fun v hv => hull_mem hv
  have hvi := hull_inc hinc
  have hD : ∀ i (h : i < (hull P).length), (hull P).getD i Gx.v0 = (hull P)[i] := by intro i h; simp [List.getD, h]
  have hPi : ∀ i (h : i + 1 < P.length), P[i].x < P[i + 1].x := fun i h => List.pairwise_iff_getElem.1 hinc i (i + 1) (by omega) h (by omega)
  have hPle : ∀ i j (hi : i < P.length) (hj : j < P.length), i ≤ j → P[i].x ≤ P[j].x := by
    intro i j hi hj hij
    by_cases h : i = j
    · subst h; exact Int.le_refl _
    · exact Int.le_of_lt (List.pairwise_iff_getElem.1 hinc i j hi hj (by omega))
  have hSl : (sidesOf (hull P)).length = (hull P).length - 1 := by unfold sidesOf; rw [sidesTo_len]
  refine ⟨hp0, hv0, by omega, by omega, hSl, hsm, hmem, fun _ _ => ?_, fun _ _ => ?_, hPi, hvi, fun i h => ?_, fun i h h2 => sides_get (hull P) i h2 h, fun i h => ?_, fun i h k hk => ?_⟩
  · have h1 := (hHf P[0] (List.getElem_mem hp0)).2
    rw [hD 0 hv0] at h1
    have h2 : (hull P)[0] ∈ P := hmem _ (List.getElem_mem hv0)
    obtain ⟨j, hj, he⟩ := List.getElem_of_mem h2
    have h3 := hPle 0 j hp0 hj (Nat.zero_le _)
    rw [he] at h3
    exact inc_eq hinc h2 (List.getElem_mem hp0) (by omega)
  · have hl1 : (hull P).length - 1 < (hull P).length := by omega
    have hl2 : P.length - 1 < P.length := by omega
    have h1 := hHl P[P.length - 1] (List.getElem_mem hl2)
    rw [hD _ hl1] at h1
    have h2 : (hull P)[(hull P).length - 1] ∈ P := hmem _ (List.getElem_mem hl1)
    obtain ⟨j, hj, he⟩ := List.getElem_of_mem h2
    have h3 := hPle j (P.length - 1) hj hl2 (by omega)
    rw [he] at h3
    exact inc_eq hinc h2 (List.getElem_mem hl2) (by omega)
  · obtain ⟨j, hj, a, b, c⟩ := hidx _ (List.getElem_mem h)
    have hz := vp_le h2 g[j].natAbs (by omega)
    have := h8 _ (List.getElem_mem hj)
    exact ⟨j, hj, a, b, by omega, by omega⟩
  · rw [hSl] at h
    rw [sides_get (hull P) i (by omega) (by rw [hSl]; omega), sides_get (hull P) (i + 1) (by omega) (by rw [hSl]; omega)]
    have h3 := hHc i (by omega)
    rw [hD i (by omega), hD (i + 1) (by omega), hD (i + 2) (by omega)] at h3
    exact side_lt (hvi i (by omega)) (hvi (i + 1) (by omega)) h3
  · have h3 := hHa i (by omega) P[k] (List.getElem_mem hk)
    rw [hD i (by omega), hD (i + 1) (by omega), cr_eq] at h3
    unfold dd at h3
    have : (P[k].y - (hull P)[i].y) * ((hull P)[i + 1].x - (hull P)[i].x) = ((hull P)[i + 1].x - (hull P)[i].x) * (P[k].y - (hull P)[i].y) := Int.mul_comm _ _
    omega
theorem icall_true {P : Program} {md : FuncId → Nat} {lk : Nat} {g : FuncId} {fn : Func} {body : Code} {args : List Value} {H : Heap} (hg : P.funcs[g]? = some fn) (hb : fn.body = some body) (h : Runs P md lk body (args0 args) H (Ends P fn fun u _ => u = .bool true)) : ∃ n H', icall P md n lk g args H = some (.bool true, H') := by
  obtain ⟨n, v, H', h1, h2⟩ := icall_of hg hb h
  exact ⟨n, H', by rw [h1, h2]⟩
theorem convex_run (H : Heap) (a : Option Addr) (f : List RI) (p : Int) (hs : SL H a f) (hl : f.length ≤ maxLen) (hp : I64 p) :
    ∃ fuel H', icall Try.prog md fuel H.length 4 [.slice a f.length f.length, .int .i64 p] H = some (.bool true, H') := by
  have hl' : f.length ≤ 9223372036854775807 := Nat.le_trans hl (by decide)
  refine icall_true Try.func4 rfl ?_
  have k0 := fun lk H' => l13_awake lk H'
  have k1 := fun lk => l13_few lk H a f f.length 40 p rfl hl' (by omega) hs
  simp only [show (((40 : Nat)) : Int) = 40 from rfl] at k1
  cases hfew : fewP f p 40 with
  | false =>
    rw [hfew] at k1
    simp -dsimp only [go_sem, k0, k1]
  | true =>
    rw [hfew] at k1
    obtain ⟨g, q, rfl, rfl, hg, q2, q3, q4, g0, g41, g8⟩ := fewP_ok hfew
    rw [List.length_map] at *
    have F := cvx_ok (q := q) hg q2 g0 g8
    have k2 := fun lk => (p_Points lk H a (g.map ofI) g.length (q : Int) (by rw [List.length_map]) hl' hs).2 g q rfl rfl hg q2 q3 q4 g0
    have k3 := fun lk => (p_Vertices lk (H ++ mkN (pts q g)) a (g.map ofI) g.length (q : Int) (by rw [List.length_map]) hl' ((Ext.app _ _).sl hs)).2 g q rfl rfl hg q2 q3 q4 g0
    have k4 := fun lk => (p_Sides lk (H ++ mkN (pts q g) ++ mkN (hull (pts q g))) a (g.map ofI) g.length (q : Int) (by rw [List.length_map]) hl' (((Ext.app _ _).trans (Ext.app _ _)).sl hs)).2 g q rfl rfl hg q2 q3 q4 g0
    have sP : SL (H ++ mkN (pts q g) ++ mkN (hull (pts q g)) ++ mkN (sidesOf (hull (pts q g)))) (mkA H (pts q g)) (pts q g) := ((Ext.app _ _).trans (Ext.app _ _)).sl (mk_sl _ _)
    have sV : SL (H ++ mkN (pts q g) ++ mkN (hull (pts q g)) ++ mkN (sidesOf (hull (pts q g)))) (mkA (H ++ mkN (pts q g)) (hull (pts q g))) (hull (pts q g)) := (Ext.app _ _).sl (mk_sl _ _)
    have sS : SL (H ++ mkN (pts q g) ++ mkN (hull (pts q g)) ++ mkN (sidesOf (hull (pts q g)))) (mkA (H ++ mkN (pts q g) ++ mkN (hull (pts q g))) (sidesOf (hull (pts q g)))) (sidesOf (hull (pts q g))) := mk_sl _ _
    have sF : SL (H ++ mkN (pts q g) ++ mkN (hull (pts q g)) ++ mkN (sidesOf (hull (pts q g)))) a g := (((Ext.app _ _).trans (Ext.app _ _)).trans (Ext.app _ _)).sl hs.ofI
    generalize sidesOf (hull (pts q g)) = S at *
    generalize hull (pts q g) = V at *
    generalize pts q g = P at *
    generalize mkA H P = aP at *
    simp only [List.append_assoc] at k3 k4 sP sV sS sF
    generalize mkA (H ++ mkN P) V = aV at *
    generalize mkA (H ++ (mkN P ++ mkN V)) S = aS at *
    obtain ⟨bP, oP, BP, rfl, hBP, zP, gP, gPx, gPy⟩ := sP.allV F.p0
    obtain ⟨bV, oV, BV, rfl, hBV, zV, gV, gVx, gVy⟩ := sV.allV F.v0
    have e0 : oP + 0 * 2 = oP := by omega
    have e0' : oV + 0 * 2 = oV := by omega
    have gP0 := gP 0 F.p0
    have gV0 := gV 0 F.v0
    rw [e0] at gP0
    rw [e0'] at gV0
    have lV : V.length - 1 < V.length := by have := F.v0; omega
    have lP : P.length - 1 < P.length := by have := F.p0; omega
    have gPl := gP _ lP
    have gVl := gV _ lV
    have fp0 : ((P.length : Nat) : Int) = 0 ↔ False := ⟨fun h => by have := F.p0; omega, fun h => h.elim⟩
    have fv0 : ((V.length : Nat) : Int) = 0 ↔ False := ⟨fun h => by have := F.v0; omega, fun h => h.elim⟩
    have w1 : IntKind.i64.wrap (((V.length : Nat) : Int) - 1) = ((V.length - 1 : Nat) : Int) := by have := F.v0; have := F.vl; rw [w64 (by omega) (by omega)]; omega
    have w2 : IntKind.i64.wrap (((P.length : Nat) : Int) - 1) = ((P.length - 1 : Nat) : Int) := by have := F.p0; have := F.pl; rw [w64 (by omega) (by omega)]; omega
    have fs : (((S.length : Nat) : Int) = ((V.length - 1 : Nat) : Int)) = True := eq_true (by rw [F.sl])
    have p1 : (0 : Int) < ((P.length : Nat) : Int) := by have := F.p0; omega
    have p2 : (0 : Int) < ((V.length : Nat) : Int) := by have := F.v0; omega
    have q1 := vtx_neq V[0] P[0]
    rw [decide_eq_true (F.first F.v0 F.p0)] at q1
    have q2' := vtx_neq V[V.length - 1] P[P.length - 1]
    rw [decide_eq_true (F.last lV lP)] at q2'
    simp -dsimp only [go_sem, k0, k1, k2, k3, k4]
    simp -dsimp only [go_sem, fp0, fv0, w1, w2, fs, eq_true p1, eq_true p2, hBP, zP, gP0, gPl, hBV, zV, gV0, gVl, lV, lP, q1, q2']
    clear k0 k1 k2 k3 k4
    clear hs
    have hHlo : H.length ≤ (H ++ (mkN P ++ (mkN V ++ mkN S))).length := by rw [List.length_append]; omega
    generalize H ++ (mkN P ++ (mkN V ++ mkN S)) = HH at *
    obtain ⟨bF, oF, BF, rfl, hBF, zF, gF⟩ := sF.all g0
    have hgl : g.length ≤ 41 := g41
    have hPl := F.pl
    have hVl := F.vl
    refine r_join_blk (fun σ H' => H' = HH ∧ σ 0 = .slice (some ⟨bF, oF, none⟩) g.length g.length ∧ σ 5 = .slice (some ⟨bP, oP, none⟩) P.length P.length ∧ σ 7 = .slice (some ⟨bV, oV, none⟩) V.length V.length ∧ σ 9 = .slice aS S.length S.length) ?_ ?_
    · refine r_loop (m := fun i => P.length - i) (I := fun i σ H' => i ≤ P.length ∧ H' = HH ∧ σ 0 = .slice (some ⟨bF, oF, none⟩) g.length g.length ∧ σ 5 = .slice (some ⟨bP, oP, none⟩) P.length P.length ∧ σ 7 = .slice (some ⟨bV, oV, none⟩) V.length V.length ∧ σ 9 = .slice aS S.length S.length ∧ σ 11 = .int .i64 (i : Int)) 0 ⟨Nat.zero_le _, rfl, rfl, rfl, rfl, rfl, rfl⟩ ?_
      rintro i σ H' ⟨i1, rfl, h0, h5, h7, h9, h11⟩
      by_cases hi : i < P.length
      · have f1 : ((i : Int) < ((P.length : Nat) : Int)) = True := eq_true (by omega)
        obtain ⟨j, hj, x1, x2, x3, x4⟩ := F.idx i hi
        have e7 : IntKind.i64.wrap ((i : Int) + 1) = ((i + 1 : Nat) : Int) := by rw [w64 (by omega) (by omega)]; omega
        have gx := gPx i hi
        rw [x1] at gx
        have gy := gPy i hi
        have c1 : ((j : Int) < 0) = False := eq_false (by omega)
        have c2 : (((g.length : Nat) : Int) ≤ (j : Int)) = False := eq_false (by omega)
        have c3 : (P[i].y < 0) = False := eq_false (by omega)
        have c4 : (100 < P[i].y) = False := eq_false (by omega)
        have gj := gF j hj
        have gj' : isub BF.c (oF + j * 2) 2 = some [.bool (decide (g[j] < 0)), .string (mkS (bytes g[j].natAbs))] := gj
        have zF' : BF.sz = 2 := zF
        have kz := fun lk H' => r2_IsZero lk H' g[j]
        rw [decide_eq_false x2] at kz
        by_cases hi0 : i = 0
        · have c5 : (0 < (i : Int)) = False := eq_false (by omega)
          simp -dsimp only [go_sem, h0, h5, h7, h9, h11, f1, hi, hBP, zP, gx, gy, c1, c2, c3, c4, c5, hBF, zF', hj, gj', kz, e7]
          exact next (i + 1) (by show P.length - (i + 1) < P.length - i; omega) ⟨hi, rfl, h0, h5, h7, h9, rfl⟩
        · have c5 : (0 < (i : Int)) = True := eq_true (by omega)
          have e8 : IntKind.i64.wrap ((i : Int) - 1) = ((i - 1 : Nat) : Int) := by rw [w64 (by omega) (by omega)]; omega
          have hi1 : i - 1 < P.length := by omega
          have gxp := gPx (i - 1) hi1
          have hinc := F.pinc (i - 1) (by omega)
          have hPi : P[i - 1 + 1]'(by omega) = P[i] := by congr 1; omega
          rw [hPi, x1] at hinc
          have c6 : ((j : Int) ≤ P[i - 1].x) = False := eq_false (by omega)
          simp -dsimp only [go_sem, h0, h5, h7, h9, h11, f1, hi, hBP, zP, gx, gy, c1, c2, c3, c4, c5, e8, hi1, gxp, c6, hBF, zF', hj, gj', kz, e7]
          exact next (i + 1) (by show P.length - (i + 1) < P.length - i; omega) ⟨hi, rfl, h0, h5, h7, h9, rfl⟩
      · have f1 : ((i : Int) < ((P.length : Nat) : Int)) = False := eq_false (by omega)
        simp -dsimp only [go_sem, h0, h5, h7, h9, h11, f1]
        exact ⟨rfl, h0, h5, h7, h9⟩
    · rintro σ H' ⟨rfl, h0, h5, h7, h9⟩
      simp -dsimp only [go_sem]
      refine r_join_blk (fun σ H2 => H2 = H' ∧ σ 5 = .slice (some ⟨bP, oP, none⟩) P.length P.length ∧ σ 7 = .slice (some ⟨bV, oV, none⟩) V.length V.length ∧ σ 9 = .slice aS S.length S.length) ?_ ?_
      · refine r_loop (m := fun i => V.length - i) (I := fun i σ H2 => i ≤ V.length ∧ H2 = H' ∧ σ 5 = .slice (some ⟨bP, oP, none⟩) P.length P.length ∧ σ 7 = .slice (some ⟨bV, oV, none⟩) V.length V.length ∧ σ 9 = .slice aS S.length S.length ∧ σ 12 = .int .i64 (i : Int)) 0 ⟨Nat.zero_le _, rfl, h5, h7, h9, rfl⟩ ?_
        rintro i σ H2 ⟨i1, rfl, h5, h7, h9, h12⟩
        by_cases hi : i < V.length
        · have f1 : ((i : Int) < ((V.length : Nat) : Int)) = True := eq_true (by omega)
          have gv := gV i hi
          have e7 : IntKind.i64.wrap ((i : Int) + 1) = ((i + 1 : Nat) : Int) := by rw [w64 (by omega) (by omega)]; omega
          simp -dsimp only [go_sem, h5, h7, h9, h12, f1]
          refine r_loop (m := fun k => P.length - k) (I := fun k σ H3 => k ≤ P.length ∧ H3 = H2 ∧ σ 5 = .slice (some ⟨bP, oP, none⟩) P.length P.length ∧ σ 7 = .slice (some ⟨bV, oV, none⟩) V.length V.length ∧ σ 9 = .slice aS S.length S.length ∧ σ 12 = .int .i64 (i : Int) ∧ σ 13 = .bool ((P.take k).any fun v => decide (v = V[i])) ∧ σ 14 = .int .i64 (k : Int)) 0 ⟨Nat.zero_le _, rfl, h5, h7, h9, h12, rfl, rfl⟩ ?_
          rintro k σ H3 ⟨k1, rfl, h5, h7, h9, h12, h13, h14⟩
          by_cases hk : k < P.length
          · have f2 : ((k : Int) < ((P.length : Nat) : Int)) = True := eq_true (by omega)
            have gp := gP k hk
            have e8 : IntKind.i64.wrap ((k : Int) + 1) = ((k + 1 : Nat) : Int) := by rw [w64 (by omega) (by omega)]; omega
            have hst : ((P.take (k + 1)).any fun v => decide (v = V[i])) = (((P.take k).any fun v => decide (v = V[i])) || decide (P[k] = V[i])) := by
              rw [List.take_add_one, List.getElem?_eq_getElem hk, Option.toList_some, List.any_append]; simp
            have hq := vtx_eql P[k] V[i]
            cases ham : (P.take k).any fun v => decide (v = V[i]) with
            | true =>
              rw [ham] at h13
              rw [ham, Bool.true_or] at hst
              simp -dsimp only [go_sem, h5, h7, h12, h13, h14, f2, e8]
              exact next (k + 1) (by show P.length - (k + 1) < P.length - k; omega) ⟨hk, rfl, h5, h7, h9, h12, by rw [hst]; rfl, rfl⟩
            | false =>
              rw [ham] at h13
              rw [ham, Bool.false_or] at hst
              simp -dsimp only [go_sem, h5, h7, h12, h13, h14, f2, e8, hk, hi, hBP, zP, gp, hBV, zV, gv, hq]
              exact next (k + 1) (by show P.length - (k + 1) < P.length - k; omega) ⟨hk, rfl, h5, h7, h9, h12, by rw [hst]; rfl, rfl⟩
          · have f2 : ((k : Int) < ((P.length : Nat) : Int)) = False := eq_false (by omega)
            have hkk : k = P.length := by omega
            subst hkk
            have ham : ((P.take P.length).any fun v => decide (v = V[i])) = true := by
              rw [List.take_length, List.any_eq_true]
              exact ⟨V[i], F.vmem _ (List.getElem_mem hi), decide_eq_true rfl⟩
            rw [ham] at h13
            simp -dsimp only [go_sem, h5, h7, h9, h12, h13, h14, f2, e7]
            exact next (i + 1) (by show V.length - (i + 1) < V.length - i; omega) ⟨hi, rfl, h5, h7, h9, rfl⟩
        · have f1 : ((i : Int) < ((V.length : Nat) : Int)) = False := eq_false (by omega)
          simp -dsimp only [go_sem, h5, h7, h9, h12, f1]
          exact ⟨rfl, h5, h7, h9⟩
      · rintro σ H2 ⟨rfl, h5, h7, h9⟩
        simp -dsimp only [go_sem]
        have hSl := F.sl
        refine r_loop (m := fun i => S.length - i) (I := fun i σ H3 => i ≤ S.length ∧ H3 = H2 ∧ σ 5 = .slice (some ⟨bP, oP, none⟩) P.length P.length ∧ σ 7 = .slice (some ⟨bV, oV, none⟩) V.length V.length ∧ σ 9 = .slice aS S.length S.length ∧ σ 15 = .int .i64 (i : Int)) 0 ⟨Nat.zero_le _, rfl, h5, h7, h9, rfl⟩ ?_
        rintro i σ H3 ⟨i1, rfl, h5, h7, h9, h15⟩
        by_cases hi : i < S.length
        · have f1 : ((i : Int) < ((S.length : Nat) : Int)) = True := eq_true (by omega)
          obtain ⟨bS, oS, BS, rfl, hBS, zS, gS, gSn⟩ := sS.allS (by omega)
          have hiv : i < V.length := by omega
          have hiv1 : i + 1 < V.length := by omega
          have e7 : IntKind.i64.wrap ((i : Int) + 1) = ((i + 1 : Nat) : Int) := by rw [w64 (by omega) (by omega)]; omega
          have vx := gVx i hiv
          have vx1 := gVx (i + 1) hiv1
          have vy := gVy i hiv
          have vy1 := gVy (i + 1) hiv1
          have gs := gS i hi
          have gsn := gSn i hi
          have hside := F.side i hi hiv1
          have hinc := F.vinc i hiv1
          obtain ⟨a1, a2, a3, a4⟩ := F.sm _ (F.vmem _ (List.getElem_mem hiv))
          obtain ⟨b1, b2, b3, b4⟩ := F.sm _ (F.vmem _ (List.getElem_mem hiv1))
          have w3 : IntKind.i64.wrap (V[i + 1].x - V[i].x) = V[i + 1].x - V[i].x := w64 (by omega) (by omega)
          have w4 : IntKind.i64.wrap (V[i + 1].y - V[i].y) = V[i + 1].y - V[i].y := w64 (by omega) (by omega)
          have c1 : (V[i + 1].x - V[i].x < 1) = False := eq_false (by omega)
          have hsn : S[i].n = V[i + 1].x - V[i].x := by rw [hside]; rfl
          have hss : S[i].s = Rat.divInt (V[i + 1].y - V[i].y) (V[i + 1].x - V[i].x) := by rw [hside]; rfl
          rw [hsn] at gsn
          have kOf := fun lk H' => r3_Of lk H' (V[i + 1].y - V[i].y) (V[i + 1].x - V[i].x) (by omega) (by omega) (by omega)
          rw [← hss] at kOf
          have c2 : (S[i].s = S[i].s) = True := eq_self _
          by_cases hi0 : i = 0
          · have c5 : (0 < (i : Int)) = False := eq_false (by omega)
            simp -dsimp only [go_sem, h5, h7, h9, h15, f1, e7, hiv, hiv1, hi, hBV, zV, vx, vx1, vy, vy1, w3, w4, c1, hBS, zS, gs, gsn, kOf, c2, c5]
            refine r_loop (m := fun k => P.length - k) (I := fun k σ H4 => k ≤ P.length ∧ H4 = H3 ∧ σ 5 = .slice (some ⟨bP, oP, none⟩) P.length P.length ∧ σ 7 = .slice (some ⟨bV, oV, none⟩) V.length V.length ∧ σ 9 = .slice (some ⟨bS, oS, none⟩) S.length S.length ∧ σ 15 = .int .i64 (i : Int) ∧ σ 16 = .int .i64 (V[i + 1].x - V[i].x) ∧ σ 17 = .int .i64 (V[i + 1].y - V[i].y) ∧ σ 18 = .int .i64 (k : Int)) 0 ⟨Nat.zero_le _, rfl, h5, h7, h9, h15, rfl, rfl, rfl⟩ ?_
            rintro k σ H4 ⟨k1, rfl, h5, h7, h9, h15, h16, h17, h18⟩
            by_cases hk : k < P.length
            · have f2 : ((k : Int) < ((P.length : Nat) : Int)) = True := eq_true (by omega)
              have e8 : IntKind.i64.wrap ((k : Int) + 1) = ((k + 1 : Nat) : Int) := by rw [w64 (by omega) (by omega)]; omega
              have px := gPx k hk
              have py := gPy k hk
              obtain ⟨d1, d2, d3, d4⟩ := F.sm _ (List.getElem_mem hk)
              have u1 : IntKind.i64.wrap (P[k].y - V[i].y) = P[k].y - V[i].y := w64 (by omega) (by omega)
              have u2 : IntKind.i64.wrap (P[k].x - V[i].x) = P[k].x - V[i].x := w64 (by omega) (by omega)
              obtain ⟨m1, m2⟩ := mul_small (a := P[k].y - V[i].y) (b := V[i + 1].x - V[i].x) (by omega) (by omega) (by omega) (by omega)
              obtain ⟨m3, m4⟩ := mul_small (a := V[i + 1].y - V[i].y) (b := P[k].x - V[i].x) (by omega) (by omega) (by omega) (by omega)
              have u3 : IntKind.i64.wrap ((P[k].y - V[i].y) * (V[i + 1].x - V[i].x)) = (P[k].y - V[i].y) * (V[i + 1].x - V[i].x) := w64 (by omega) (by omega)
              have u4 : IntKind.i64.wrap ((V[i + 1].y - V[i].y) * (P[k].x - V[i].x)) = (V[i + 1].y - V[i].y) * (P[k].x - V[i].x) := w64 (by omega) (by omega)
              have hab := F.above i hiv1 k hk
              have u5 : ((P[k].y - V[i].y) * (V[i + 1].x - V[i].x) < (V[i + 1].y - V[i].y) * (P[k].x - V[i].x)) = False := eq_false (by omega)
              simp -dsimp only [go_sem, h5, h7, h9, h15, h16, h17, h18, f2, e8, hk, hiv, hBP, zP, px, py, hBV, zV, vx, vy, u1, u2, u3, u4, u5]
              exact next (k + 1) (by show P.length - (k + 1) < P.length - k; omega) ⟨hk, rfl, h5, h7, h9, h15, h16, h17, rfl⟩
            · have f2 : ((k : Int) < ((P.length : Nat) : Int)) = False := eq_false (by omega)
              simp -dsimp only [go_sem, h5, h7, h9, h15, h18, f2, e7]
              exact next (i + 1) (by show S.length - (i + 1) < S.length - i; omega) ⟨hi, rfl, h5, h7, h9, rfl⟩
          · have c5 : (0 < (i : Int)) = True := eq_true (by omega)
            have e9 : IntKind.i64.wrap ((i : Int) - 1) = ((i - 1 : Nat) : Int) := by rw [w64 (by omega) (by omega)]; omega
            have hi1 : i - 1 < S.length := by omega
            have gsp := gS (i - 1) hi1
            have hasc := F.asc (i - 1) (by omega)
            have hSi : S[i - 1 + 1]'(by omega) = S[i] := by congr 1; omega
            rw [hSi] at hasc
            have hbS : ∀ j (hj : j < S.length), (bytes (S[j].s.num.natAbs)).length < 1000000 ∧ (bytes (S[j].s.den)).length < 1000000 := by
              intro j hj
              have hj1 : j + 1 < V.length := by omega
              have hjv : j < V.length := by omega
              obtain ⟨x1, x2, x3, x4⟩ := F.sm _ (F.vmem _ (List.getElem_mem hjv))
              obtain ⟨y1, y2, y3, y4⟩ := F.sm _ (F.vmem _ (List.getElem_mem hj1))
              have hjx := F.vinc j hj1
              rw [F.side j hj hj1]
              have r1 := rat_num_le (V[j + 1].y - V[j].y) (V[j + 1].x - V[j].x) (by omega)
              have r2 := rat_den_le (V[j + 1].y - V[j].y) (V[j + 1].x - V[j].x) (by omega)
              have r3 := bl_small (n := (sideOf V[j] V[j + 1]).s.num.natAbs) (by unfold sideOf; simp only []; omega)
              have r4 := bl_small (n := (sideOf V[j] V[j + 1]).s.den) (by unfold sideOf; simp only []; omega)
              exact ⟨by omega, by omega⟩
            have kC := fun lk H' => r3_Compare lk H' S[i - 1].s S[i].s (hbS _ hi1).1 (hbS _ hi).1 (hbS _ hi1).2 (hbS _ hi).2
            have c6 : (0 ≤ rcmp S[i - 1].s S[i].s) = False := by rw [rcmp_ge]; exact eq_false (fun h => h hasc)
            simp -dsimp only [go_sem, h5, h7, h9, h15, f1, e7, hiv, hiv1, hi, hBV, zV, vx, vx1, vy, vy1, w3, w4, c1, hBS, zS, gs, gsn, kOf, c2, c5, e9, hi1, gsp, kC, c6]
            refine r_loop (m := fun k => P.length - k) (I := fun k σ H4 => k ≤ P.length ∧ H4 = H3 ∧ σ 5 = .slice (some ⟨bP, oP, none⟩) P.length P.length ∧ σ 7 = .slice (some ⟨bV, oV, none⟩) V.length V.length ∧ σ 9 = .slice (some ⟨bS, oS, none⟩) S.length S.length ∧ σ 15 = .int .i64 (i : Int) ∧ σ 16 = .int .i64 (V[i + 1].x - V[i].x) ∧ σ 17 = .int .i64 (V[i + 1].y - V[i].y) ∧ σ 18 = .int .i64 (k : Int)) 0 ⟨Nat.zero_le _, rfl, h5, h7, h9, h15, rfl, rfl, rfl⟩ ?_
            rintro k σ H4 ⟨k1, rfl, h5, h7, h9, h15, h16, h17, h18⟩
            by_cases hk : k < P.length
            · have f2 : ((k : Int) < ((P.length : Nat) : Int)) = True := eq_true (by omega)
              have e8 : IntKind.i64.wrap ((k : Int) + 1) = ((k + 1 : Nat) : Int) := by rw [w64 (by omega) (by omega)]; omega
              have px := gPx k hk
              have py := gPy k hk
              obtain ⟨d1, d2, d3, d4⟩ := F.sm _ (List.getElem_mem hk)
              have u1 : IntKind.i64.wrap (P[k].y - V[i].y) = P[k].y - V[i].y := w64 (by omega) (by omega)
              have u2 : IntKind.i64.wrap (P[k].x - V[i].x) = P[k].x - V[i].x := w64 (by omega) (by omega)
              obtain ⟨m1, m2⟩ := mul_small (a := P[k].y - V[i].y) (b := V[i + 1].x - V[i].x) (by omega) (by omega) (by omega) (by omega)
              obtain ⟨m3, m4⟩ := mul_small (a := V[i + 1].y - V[i].y) (b := P[k].x - V[i].x) (by omega) (by omega) (by omega) (by omega)
              have u3 : IntKind.i64.wrap ((P[k].y - V[i].y) * (V[i + 1].x - V[i].x)) = (P[k].y - V[i].y) * (V[i + 1].x - V[i].x) := w64 (by omega) (by omega)
              have u4 : IntKind.i64.wrap ((V[i + 1].y - V[i].y) * (P[k].x - V[i].x)) = (V[i + 1].y - V[i].y) * (P[k].x - V[i].x) := w64 (by omega) (by omega)
              have hab := F.above i hiv1 k hk
              have u5 : ((P[k].y - V[i].y) * (V[i + 1].x - V[i].x) < (V[i + 1].y - V[i].y) * (P[k].x - V[i].x)) = False := eq_false (by omega)
              simp -dsimp only [go_sem, h5, h7, h9, h15, h16, h17, h18, f2, e8, hk, hiv, hBP, zP, px, py, hBV, zV, vx, vy, u1, u2, u3, u4, u5]
              exact next (k + 1) (by show P.length - (k + 1) < P.length - k; omega) ⟨hk, rfl, h5, h7, h9, h15, h16, h17, rfl⟩
            · have f2 : ((k : Int) < ((P.length : Nat) : Int)) = False := eq_false (by omega)
              simp -dsimp only [go_sem, h5, h7, h9, h15, h18, f2, e7]
              exact next (i + 1) (by show S.length - (i + 1) < S.length - i; omega) ⟨hi, rfl, h5, h7, h9, rfl⟩
        · have f1 : ((i : Int) < ((S.length : Nat) : Int)) = False := eq_false (by omega)
          simp -dsimp only [go_sem, h5, h7, h9, h15, f1]
end Gx
end
