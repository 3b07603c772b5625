/- The law Transforms. -/
import Derived.Test.YtchpchjcghongaaGreatGz18
import Derived.Test.YtchpchjcghongaaGreatGz40
set_option linter.all false
set_option linter.unusedVariables false
set_option linter.unusedSimpArgs false
set_option linter.unnecessarySimpa false
set_option linter.deprecated false
section
set_option autoImplicit false
namespace Gx
open Go Go.Proofs
set_option maxRecDepth 10000
theorem Own.thru {α : Type} [Enc α] {lo : Nat} {H : Heap} {a b : Option Addr} {l : List α} (h : Own lo H a l) (hne : ∀ c o e c' o' e', a = some ⟨c, o, e⟩ → b = some ⟨c', o', e'⟩ → c' ≠ c) (N M : Heap) : Own lo (Gx.kill (H ++ N) b ++ M) a l := by
  rcases h with h | ⟨c, h1, h2, h3⟩
  · exact .inl h
  · exact .inr ⟨c, h1, h2, ilive_app (kill_other (ilive_app h3) (fun c' o' e' hb => hne c 0 none c' o' e' h1 hb))⟩
theorem Own.lt {α : Type} [Enc α] {lo : Nat} {H : Heap} {a : Option Addr} {l : List α} (h : Own lo H a l) : ∀ c o e, a = some ⟨c, o, e⟩ → lo ≤ c ∧ c < H.length := by
  intro c o e ha
  rcases h with ⟨h, _⟩ | ⟨b, h, h2, h4⟩
  · rw [h] at ha; cases ha
  · rw [h] at ha; cases ha; exact ⟨h2, ilive_lt h4⟩
theorem live_thru {H : Heap} {a : Option Addr} {b : Nat} {B : Blk} (hb : ilive H b = some B) (hne : ∀ c o e, a = some ⟨c, o, e⟩ → c ≠ b) (N M : Heap) : ilive (Gx.kill (H ++ N) a ++ M) b = some B := ilive_app (kill_other (ilive_app hb) hne)
theorem pow_small {q k : Nat} (h1 : q ≤ 100) (h2 : k ≤ 16) : (bytes (q ^ k)).length ≤ 16 := by
  apply bl_le
  have a1 : q ^ k ≤ 100 ^ k := Nat.pow_le_pow_left h1 _
  have a2 : 100 ^ k ≤ 100 ^ 16 := Nat.pow_le_pow_right (by decide) h2
  have a3 : 100 ^ 16 < 256 ^ 16 := by decide
  omega
theorem ok_scaled {g : List Int} {q k : Nat} (hg : OkP g) (h2 : 2 ≤ q) (h100 : q ≤ 100) (hk : k ≤ 16) (h8 : ∀ z ∈ g, (bytes z.natAbs).length ≤ 8) : OkP (g.map fun z => z * ((q ^ k : Nat) : Int)) := by
  refine ⟨by rw [List.length_map]; exact hg.len, fun z hz => ?_, fun h => ?_⟩
  · obtain ⟨w, hw, rfl⟩ := List.mem_map.1 hz
    rw [Int.natAbs_mul, Int.natAbs_natCast]
    have := bl_mul w.natAbs (q ^ k)
    have := h8 w hw
    have := pow_small h100 hk
    omega
  · simp only [List.getElem_map, List.length_map]
    rw [Ne, mul_pow_zero h2]
    exact hg.last (by simpa using h)
theorem ok_stretched {g : List Int} {q : Nat} (hg : OkP g) (h2 : 2 ≤ q) (h100 : q ≤ 100) (hl : g.length ≤ 17) (h8 : ∀ z ∈ g, (bytes z.natAbs).length ≤ 8) : OkP (strF q 0 g) := by
  refine ⟨by rw [strF_len]; exact hg.len, fun z hz => ?_, fun h => ?_⟩
  · obtain ⟨i, hi, rfl⟩ := List.getElem_of_mem hz
    rw [strF_len] at hi
    rw [strF_get q 0 g i hi, Int.natAbs_mul, Int.natAbs_natCast]
    have := bl_mul g[i].natAbs (q ^ (0 + i))
    have := h8 _ (List.getElem_mem hi)
    have := pow_small (k := 0 + i) h100 (by omega)
    omega
  · have h' : 0 < g.length := by rw [← strF_len q 0 g]; exact h
    have e := strF_get q 0 g (g.length - 1) (by omega)
    simp only [strF_len]
    rw [e, Ne, mul_pow_zero h2]
    exact hg.last h'
theorem ok_rev {g : List Int} (hg : OkP g) (h0 : ∀ h : 0 < g.length, g[0] ≠ 0) : OkP g.reverse := by
  refine ⟨by rw [List.length_reverse]; exact hg.len, fun z hz => hg.small z (List.mem_reverse.1 hz), fun h => ?_⟩
  rw [List.length_reverse] at h
  simp only [List.getElem_reverse, List.length_reverse]
  have e : g.length - 1 - (g.length - 1) = 0 := by omega
  have : g[g.length - 1 - (g.length - 1)]'(by omega) = g[0] := by congr 1
  rw [this]
  exact h0 h
/-- What the three polygons look like. -/
structure TrF (g : List Int) (q k : Nat) (S T D : List Sd) : Prop where
  sc : sidesOf (hull (pts q (g.map fun z => z * ((q ^ k : Nat) : Int)))) = S
  tl : T.length = S.length
  t : ∀ i (h : i < S.length) (h2 : i < T.length), T[i].n = S[i].n ∧ T[i].s = S[i].s + 1
  dl : D.length = S.length
  d : ∀ i (h : i < D.length) (h2 : S.length - 1 - i < S.length), D[i].n = S[S.length - 1 - i].n ∧ D[i].s = -S[S.length - 1 - i].s
  len : S.length ≤ 65
  small : ∀ s ∈ S, s.s.den ≤ 2000000 ∧ s.s.num.natAbs ≤ 2000000
theorem tr_ok {g : List Int} {q k : Nat} (hg : OkP g) (h2 : 2 ≤ q) : TrF g q k (sidesOf (hull (pts q g))) (sidesOf (hull (pts q (strF q 0 g)))) (sidesOf (hull (pts q g.reverse))) := by
  have hx : ∀ i (hi : i + 1 < (hull (pts q g)).length), (hull (pts q g))[i].x < (hull (pts q g))[i + 1].x := hull_inc (l := pts q g) (pts_from q 0 g).1
  have hpl := pts_len q 0 g
  change (pts q g).length ≤ g.length at hpl
  have hhl := hull_len (pts q g)
  have hll : (sidesOf (hull (pts q g))).length = (hull (pts q g)).length - 1 := by unfold sidesOf; rw [sidesTo_len]
  have hlen := hg.len
  have e1 : pts q (g.map fun z => z * ((q ^ k : Nat) : Int)) = (pts q g).map (shY k) := pts_scaled h2 k 0 g
  have e2 : pts q (strF q 0 g) = (pts q g).map stY := pts_stretched h2 0 g
  have e3 := pts_rev q g
  have hinc : (pts q g).Pairwise (fun a b => a.x < b.x) := (pts_from q 0 g).1
  have hsm := sides_small (fun v hv => pts_small h2 hg v (hull_mem hv)) (hull_inc (pts_from q 0 g).1)
  change ∀ s ∈ sidesOf (hull (pts q g)), _ at hsm
  refine ⟨?_, ?_, ?_, ?_, ?_, by omega, fun s hs => ⟨(hsm s hs).1, (hsm s hs).2.1⟩⟩
  · rw [e1, hull_map _ (over_shY k), sides_shY]
  · rw [e2, hull_map _ over_stY, sides_stY _ hx, List.length_map]
  · intro i h h3
    have e : sidesOf (hull (pts q (strF q 0 g))) = (sidesOf (hull (pts q g))).map fun s => ⟨s.s + 1, s.n⟩ := by rw [e2, hull_map _ over_stY, sides_stY _ hx]
    simp only [e, List.getElem_map]
    exact ⟨trivial, trivial⟩
  · rw [e3, hull_rev _ hinc]
    unfold sidesOf
    rw [sidesTo_len, sidesTo_len, List.length_reverse, List.length_map]
  · intro i h h3
    have e : sidesOf (hull (pts q g.reverse)) = sidesOf (((hull (pts q g)).map (fl g.length)).reverse) := by rw [e3, hull_rev _ hinc]
    simp only [e] at h ⊢
    have hr : (sidesOf (((hull (pts q g)).map (fl g.length)).reverse)).length = (hull (pts q g)).length - 1 := by
      unfold sidesOf
      rw [sidesTo_len, List.length_reverse, List.length_map]
    obtain ⟨_, _, r⟩ := sides_rev g.length (hull (pts q g)) i (by omega)
    exact r
/-- Another block. -/
def Sep (a b : Option Addr) : Prop := ∀ c o e c' o' e', a = some ⟨c, o, e⟩ → b = some ⟨c', o', e'⟩ → c ≠ c'
/-- One number is put behind a growing slice. -/
theorem step_ap {H H' : Heap} {a : Option Addr} {l : List Int} (hE : Ext H H') (hlen : H.length + 2 ≤ H'.length) (o : Own (H.length + 2) H' a l) (x : Int) :
    ∃ K : Heap, K = Gx.kill (H' ++ [⟨[.bool (decide (x < 0)), .string (mkS (bytes x.natAbs))], 2, false⟩]) a ++ [⟨cells l ++ [.bool (decide (x < 0)), .string (mkS (bytes x.natAbs))], 2, false⟩] ∧ K.length = H'.length + 2 ∧ Ext H K ∧ Own (H.length + 2) K (some ⟨H'.length + 1, 0, none⟩) (l ++ [x]) ∧
      (∀ a2 (l2 : List Int), Own (H.length + 2) H' a2 l2 → Sep a a2 → Own (H.length + 2) K a2 l2) ∧ (∀ b B, b < H.length + 2 → ilive H' b = some B → ilive K b = some B) := by
  refine ⟨_, rfl, by rw [List.length_append, kill_len, List.length_append]; rfl, ?_, ?_, fun a2 l2 h hS => ?_, fun b B hb h => ?_⟩
  · exact ((o.low (Nat.le_add_right _ _)).more _).kill (hE.more _) |>.more _
  · exact own_ap (lo := H.length + 2) (H := H') (a := a) (l := l) x [⟨[.bool (decide (x < 0)), .string (mkS (bytes x.natAbs))], 2, false⟩] (by simp; omega)
  · exact h.thru (fun c o e c' o' e' h1 h2 => hS c' o' e' c o e h2 h1) _ _
  · exact live_thru h (fun c o' e hc => by have := o.lt c o' e hc; omega) _ _
theorem Sep.new {lo n : Nat} {H : Heap} {a : Option Addr} {l : List Int} (h : Own lo H a l) (hn : H.length ≤ n) : Sep a (some ⟨n, 0, none⟩) := by
  intro c o e c' o' e' h1 h2
  have := h.lt c o e h1
  cases h2; omega
theorem icall_yes2 {P : Program} {md : FuncId → Nat} {lk : Nat} {g : FuncId} {fn : Func} {body : Code} {args : List Value} {H : Heap} (hg : P.funcs[g]? = some fn) (hb : fn.body = some body) (h : Runs P md lk body (args0 args) H (Ends P fn fun u _ => u = .bool true)) : ∃ n H', icall P md n lk g args H = some (.bool true, H') := by
  obtain ⟨n, v, H', h1, h2⟩ := icall_of hg hb h
  exact ⟨n, H', by rw [h1, h2]⟩
theorem transforms_run (H : Heap) (a : Option Addr) (f : List RI) (p : Int) (kk : Nat) (hs : SL H a f) (hl : f.length ≤ maxLen) (hp : I64 p) (hkk : kk < 256) :
    ∃ fuel H', icall Tryz.prog md fuel H.length 3 [.slice a f.length f.length, .int .i64 p, .int .u8 (kk : Int)] H = some (.bool true, H') := by
  have hl' : f.length ≤ 9223372036854775807 := Nat.le_trans hl (by decide)
  refine icall_yes2 Tryz.func3 rfl ?_
  have k0 := fun lk H' => l13_awake lk H'
  have k1 := fun lk => l13_few lk H a f f.length 16 p rfl hl' (by omega) hs
  simp only [show (((16 : Nat)) : Int) = 16 from rfl] at k1
  cases hfew : fewP f p 16 with
  | false =>
    rw [hfew] at k1
    simp -dsimp only [go_sem, k0, k1]
  | true =>
  rw [hfew] at k1
  obtain ⟨g, q, rfl, rfl, hg, q2, q3, q4, g0, g17, g8⟩ := fewP_ok hfew
  rw [List.length_map] at *
  by_cases h100 : q ≤ 100
  case neg =>
    have f1 : (100 < (q : Int)) = True := eq_true (by omega)
    simp -dsimp only [go_sem, k0, k1, f1]
  have f1 : (100 < (q : Int)) = False := eq_false (by omega)
  have k2 := fun lk => l13_short lk H a (g.map ofI) g.length 17 4 (by rw [List.length_map]) hl' hs
  simp only [show (((17 : Nat)) : Int) = 17 from rfl, show (((4 : Nat)) : Int) = 4 from rfl] at k2
  cases hsh : shortB (g.map ofI) 17 4 with
  | false =>
    rw [hsh] at k2
    simp -dsimp only [go_sem, k0, k1, k2, f1]
  | true =>
  rw [hsh] at k2
  have e1 : IntKind.i64.wrap (kk : Int) = (kk : Int) := w64 (by omega) (by omega)
  have e2 : Int.tmod (kk : Int) 10 = ((kk % 10 : Nat) : Int) := by rw [Int.tmod_eq_emod_of_nonneg (by omega)]; omega
  have e3 : IntKind.i64.wrap (((kk % 10 : Nat) : Int)) = ((kk % 10 : Nat) : Int) := w64 (by omega) (by omega)
  have k3 := fun lk H' => r2_FromInt lk H' 1 (by omega)
  have k4 := fun lk H' => r2_FromInt lk H' (q : Int) (by omega)
  have hpw := pow_small (k := kk % 10) h100 (by omega)
  have hq8 := bl_small (n := q) (by omega)
  have k5 := fun lk H' => r2_Pow lk H' q (kk % 10) (by omega) (by omega) (by omega) (by omega)
  have hk16 : kk % 10 ≤ 16 := by omega
  generalize kk % 10 = k at *
  have F := tr_ok (k := k) hg q2
  simp -dsimp only [go_sem, k0, k1, k2, f1, e1, e2, e3, k3, k4, k5]
  have hll : ∀ i, i ≤ g.length → i = ((g.map fun z => z * ((q ^ k : Nat) : Int)).take i).length := fun i h => by rw [List.length_take, List.length_map]; omega
  have hl2 : ∀ i, i ≤ g.length → i = ((strF q 0 g).take i).length := fun i h => by rw [List.length_take, strF_len]; omega
  have hl3 : ∀ i, i ≤ g.length → i = (g.reverse.take i).length := fun i h => by rw [List.length_take, List.length_reverse]; omega
  refine r_join_blk (fun σ H' => ∃ a1 a2 a3, Ext H H' ∧ SL H' a1 (g.map fun z => z * ((q ^ k : Nat) : Int)) ∧ SL H' a2 (strF q 0 g) ∧ SL H' a3 g.reverse ∧ σ 0 = .slice a g.length g.length ∧ σ 1 = .int .i64 (q : Int) ∧ σ 7 = .slice a1 g.length g.length ∧ σ 8 = .slice a2 g.length g.length ∧ σ 9 = .slice a3 g.length g.length) ?_ ?_
  · refine r_loop (m := fun (s : Nat × Option Addr × Option Addr × Option Addr) => g.length - s.1) (I := fun s σ H' => s.1 ≤ g.length ∧ Ext H H' ∧ H.length + 2 ≤ H'.length ∧ Own (H.length + 2) H' s.2.1 ((g.map fun z => z * ((q ^ k : Nat) : Int)).take s.1) ∧ Own (H.length + 2) H' s.2.2.1 ((strF q 0 g).take s.1) ∧ Own (H.length + 2) H' s.2.2.2 (g.reverse.take s.1) ∧
      Sep s.2.1 s.2.2.1 ∧ Sep s.2.1 s.2.2.2 ∧ Sep s.2.2.1 s.2.2.2 ∧ ilive H' H.length = some ⟨[.bool (decide (((q ^ s.1 : Nat) : Int) < 0)), .string (mkS (bytes ((q ^ s.1 : Nat) : Int).natAbs))], 2, false⟩ ∧ ilive H' (H.length + 1) = some ⟨[.bool (decide (((q ^ k : Nat) : Int) < 0)), .string (mkS (bytes ((q ^ k : Nat) : Int).natAbs))], 2, false⟩ ∧
      σ 0 = .slice a g.length g.length ∧ σ 1 = .int .i64 (q : Int) ∧ σ 7 = .slice s.2.1 s.1 s.1 ∧ σ 8 = .slice s.2.2.1 s.1 s.1 ∧ σ 9 = .slice s.2.2.2 s.1 s.1 ∧ σ 10 = .pointer (some ⟨H.length, 0, none⟩) ∧ σ 11 = .pointer (some ⟨H.length + 1, 0, none⟩) ∧ σ 12 = .int .i64 (s.1 : Int)) (0, none, none, none) ?_ ?_
    · refine ⟨Nat.zero_le _, Ext.app _ _, by simp, Own.nil, Own.nil, Own.nil, fun _ _ _ _ _ _ h => (nomatch h), fun _ _ _ _ _ _ h => (nomatch h), fun _ _ _ _ _ _ h => (nomatch h), ?_, ?_, rfl, rfl, rfl, rfl, rfl, rfl, rfl, rfl⟩
      · simp -dsimp only [go_sem]; rfl
      · simp -dsimp only [go_sem]
    · rintro ⟨i, a1, a2, a3⟩ σ H' ⟨i1, hE, hlen, o1, o2, o3, s12, s13, s23, c10, c11, g0', g1', g7, g8', g9, g10, g11, g12⟩
      simp only [] at i1 o1 o2 o3 s12 s13 s23 c10 g7 g8' g9 g12
      by_cases hi : i < g.length
      · have f2 : ((i : Int) < ((g.length : Nat) : Int)) = True := eq_true (by omega)
        obtain ⟨b, o, B, rfl, hB, hz, hgt⟩ := hs.ofI.int i hi
        have hB' := hE.live hB
        have hbi := g8 _ (List.getElem_mem hi)
        have m1 := fun lk H' => r2_Mul lk H' g[i] ((q ^ k : Nat) : Int) (by omega) (by rw [Int.natAbs_natCast]; omega)
        have hap1 := fun t t2 => ap_own (P := Tryz.prog) (lk := H.length) (t := t) (t2 := t2) o1 (by omega) (hll i i1) [.bool (decide (g[i] * ((q ^ k : Nat) : Int) < 0)), .string (mkS (bytes (g[i] * ((q ^ k : Nat) : Int)).natAbs))] 2 rfl rfl
        simp -dsimp only [go_sem, g0', g7, g12, g11, f2, hB', hz, hgt, hi, c11, m1, reps, hap1]
        refine ⟨by omega, ?_⟩
        obtain ⟨K1, hK1, n1, E1, p1, q1, r1⟩ := step_ap hE hlen o1 (g[i] * ((q ^ k : Nat) : Int))
        rw [← hK1]
        have o2' := q1 a2 _ o2 s12
        have o3' := q1 a3 _ o3 s13
        have c10' := r1 _ _ (by omega) c10
        have c11' := r1 _ _ (by omega) c11
        have hB1 := E1.live hB
        clear hK1 q1 r1 hap1 m1
        have hpi := pow_small (k := i) h100 (by omega)
        have m2 := fun lk H' => r2_Mul lk H' g[i] ((q ^ i : Nat) : Int) (by omega) (by rw [Int.natAbs_natCast]; omega)
        have hap2 := fun t t2 => ap_own (P := Tryz.prog) (lk := H.length) (t := t) (t2 := t2) o2' (by omega) (hl2 i i1) [.bool (decide (g[i] * ((q ^ i : Nat) : Int) < 0)), .string (mkS (bytes (g[i] * ((q ^ i : Nat) : Int)).natAbs))] 2 rfl rfl
        simp -dsimp only [go_sem, g0', g8', g12, g10, hB1, hz, hgt, hi, c10', m2, reps, hap2]
        refine ⟨by omega, ?_⟩
        obtain ⟨K2, hK2, n2, E2, p2, q2', r2⟩ := step_ap E1 (by omega) o2' (g[i] * ((q ^ i : Nat) : Int))
        rw [← hK2]
        have o3'' := q2' a3 _ o3' s23
        have p1' := q2' _ _ p1 (Sep.new o2 (by omega))
        have c10'' := r2 _ _ (by omega) c10'
        have c11'' := r2 _ _ (by omega) c11'
        have hB2 := E2.live hB
        clear hK2 q2' r2 hap2 m2
        have hir : g.length - 1 - i < g.length := by omega
        obtain ⟨b', o', B', heq, hBr, hzr, hgr⟩ := hs.ofI.int (g.length - 1 - i) hir
        cases heq
        rw [hB] at hBr
        cases hBr
        have w1 : IntKind.i64.wrap (((g.length : Nat) : Int) - 1) = ((g.length - 1 : Nat) : Int) := by rw [w64 (by omega) (by omega)]; omega
        have w2 : IntKind.i64.wrap (((g.length - 1 : Nat) : Int) - (i : Int)) = ((g.length - 1 - i : Nat) : Int) := by rw [w64 (by omega) (by omega)]; omega
        have hap3 := fun t t2 => ap_own (P := Tryz.prog) (lk := H.length) (t := t) (t2 := t2) o3'' (by omega) (hl3 i i1) [.bool (decide (g[g.length - 1 - i] < 0)), .string (mkS (bytes (g[g.length - 1 - i]).natAbs))] 2 rfl rfl
        simp -dsimp only [go_sem, g0', g9, g12, hB2, hz, hgr, hir, w1, w2, reps, hap3]
        refine ⟨by omega, ?_⟩
        obtain ⟨K3, hK3, n3, E3, p3, q3', r3⟩ := step_ap E2 (by omega) o3'' g[g.length - 1 - i]
        rw [← hK3]
        have p1'' := q3' _ _ p1' (Sep.new o3 (by omega))
        have p2' := q3' _ _ p2 (Sep.new o3' (by omega))
        have c3 := r3 _ _ (by omega) c10''
        have c3' := r3 _ _ (by omega) c11''
        clear hK3 q3' r3 hap3
        have m3 := fun lk H' => r2_Mul lk H' ((q ^ i : Nat) : Int) (q : Int) (by rw [Int.natAbs_natCast]; omega) (by rw [Int.natAbs_natCast]; omega)
        rw [← Int.natCast_mul, ← Nat.pow_succ] at m3
        have e7 : IntKind.i64.wrap ((i : Int) + 1) = ((i + 1 : Nat) : Int) := by rw [w64 (by omega) (by omega)]; omega
        have hne : H.length ≠ H.length + 1 := by omega
        have t1 : (g.map fun z => z * ((q ^ k : Nat) : Int)).take (i + 1) = (g.map fun z => z * ((q ^ k : Nat) : Int)).take i ++ [g[i] * ((q ^ k : Nat) : Int)] := by
          rw [List.take_add_one, List.getElem?_eq_getElem (by rw [List.length_map]; exact hi)]; simp
        have t2 : (strF q 0 g).take (i + 1) = (strF q 0 g).take i ++ [g[i] * ((q ^ i : Nat) : Int)] := by
          rw [List.take_add_one, List.getElem?_eq_getElem (by rw [strF_len]; exact hi), strF_get q 0 g i hi, Nat.zero_add]; rfl
        have t3 : g.reverse.take (i + 1) = g.reverse.take i ++ [g[g.length - 1 - i]] := by
          rw [List.take_add_one, List.getElem?_eq_getElem (by rw [List.length_reverse]; exact hi)]; simp
        rw [← t1] at p1''
        rw [← t2] at p2'
        rw [← t3] at p3
        simp -dsimp only [go_sem, g1', g12, g10, c3, k4, m3, e7]
        refine next (i + 1, some ⟨H'.length + 1, 0, none⟩, some ⟨K1.length + 1, 0, none⟩, some ⟨K2.length + 1, 0, none⟩) (by show g.length - (i + 1) < g.length - i; omega) ⟨hi, E3.set (Nat.le_refl _) _, by rw [List.length_set]; omega, p1''.set (fun c o e hc => by have := p1''.lt c o e hc; omega), p2'.set (fun c o e hc => by have := p2'.lt c o e hc; omega), p3.set (fun c o e hc => by have := p3.lt c o e hc; omega), ?_, ?_, ?_, ilive_set_self (by omega) rfl, ?_, g0', g1', rfl, rfl, rfl, g10, g11, rfl⟩
        · intro c o e c' o' e' h1 h2; cases h1; cases h2; omega
        · intro c o e c' o' e' h1 h2; cases h1; cases h2; omega
        · intro c o e c' o' e' h1 h2; cases h1; cases h2; omega
        · rw [ilive_set_ne hne]; exact c3'
      · have f2 : ((i : Int) < ((g.length : Nat) : Int)) = False := eq_false (by omega)
        have hig : i = g.length := by omega
        subst hig
        have t1 : (g.map fun z => z * ((q ^ k : Nat) : Int)).take g.length = g.map fun z => z * ((q ^ k : Nat) : Int) := by rw [List.take_of_length_le]; rw [List.length_map]; exact Nat.le_refl _
        have t2 : (strF q 0 g).take g.length = strF q 0 g := by rw [List.take_of_length_le]; rw [strF_len]; exact Nat.le_refl _
        have t3 : g.reverse.take g.length = g.reverse := by rw [List.take_of_length_le]; rw [List.length_reverse]; exact Nat.le_refl _
        rw [t1] at o1
        rw [t2] at o2
        rw [t3] at o3
        simp -dsimp only [go_sem, g0', g12, f2]
        exact ⟨a1, a2, a3, hE, o1.sl, o2.sl, o3.sl, g0', g1', g7, g8', g9⟩
  · rintro σ H' ⟨a1, a2, a3, hE, o1, o2, o3, g0', g1', g7, g8', g9⟩
    have sF := hE.sl hs
    have sF' := sF.ofI
    have okS := ok_scaled (k := k) hg q2 h100 (by omega) g8
    have okT := ok_stretched hg q2 h100 (by omega) g8
    have hlS : (g.map fun z => z * ((q ^ k : Nat) : Int)).length = g.length := List.length_map _
    have hlT := strF_len q 0 g
    have j1 := fun lk => (p_Sides lk H' a (g.map ofI) g.length (q : Int) (by rw [List.length_map]) hl' sF).2 g q rfl rfl hg q2 q3 q4 g0
    have j2 := fun lk => (p_Sides lk (H' ++ mkN (sidesOf (hull (pts q g)))) a1 ((g.map fun z => z * ((q ^ k : Nat) : Int)).map ofI) g.length (q : Int) (by rw [List.length_map, List.length_map]) hl' ((Ext.app _ _).sl o1).toI).2 _ q rfl rfl okS q2 q3 q4 (by omega)
    rw [F.sc] at j2
    have j3 := fun lk => (p_Sides lk (H' ++ mkN (sidesOf (hull (pts q g))) ++ mkN (sidesOf (hull (pts q g)))) a2 ((strF q 0 g).map ofI) g.length (q : Int) (by rw [List.length_map, hlT]) hl' (((Ext.app _ _).trans (Ext.app _ _)).sl o2).toI).2 _ q rfl rfl okT q2 q3 q4 (by omega)
    have okR := fun h => ok_rev hg h
    have hSl : (sidesOf (hull (pts q g))).length ≤ 9223372036854775807 := by have := F.len; omega
    generalize sidesOf (hull (pts q g)) = S at *
    generalize sidesOf (hull (pts q (strF q 0 g))) = T at *
    generalize hDe : sidesOf (hull (pts q g.reverse)) = D at *
    have sS1 : SL (H' ++ mkN S ++ mkN S ++ mkN T) (mkA H' S) S := ((Ext.app _ _).trans (Ext.app _ _)).sl (mk_sl _ _)
    have sS2 : SL (H' ++ mkN S ++ mkN S ++ mkN T) (mkA (H' ++ mkN S) S) S := (Ext.app _ _).sl (mk_sl _ _)
    have sT : SL (H' ++ mkN S ++ mkN S ++ mkN T) (mkA (H' ++ mkN S ++ mkN S) T) T := mk_sl _ _
    have sF2 : SL (H' ++ mkN S ++ mkN S ++ mkN T) a g := (((Ext.app _ _).trans (Ext.app _ _)).trans (Ext.app _ _)).sl sF'
    have sR : SL (H' ++ mkN S ++ mkN S ++ mkN T) a3 g.reverse := (((Ext.app _ _).trans (Ext.app _ _)).trans (Ext.app _ _)).sl o3
    have j4 := fun lk => r13_Same lk (H' ++ mkN S ++ mkN S ++ mkN T) (mkA H' S) (mkA (H' ++ mkN S) S) S S _ _ rfl rfl hSl sS1 sS2
    rw [decide_eq_true rfl] at j4
    have ft : (((S.length : Nat) : Int) = ((T.length : Nat) : Int)) = True := eq_true (by rw [F.tl])
    generalize mkA H' S = aS at *
    generalize mkA (H' ++ mkN S) S = aS' at *
    simp only [List.append_assoc] at j2 j3 j4 sS1 sS2 sT sF2 sR
    generalize mkA (H' ++ (mkN S ++ mkN S)) T = aT at *
    simp -dsimp only [go_sem, g0', g1', g7, g8', j1, j2, j3, j4, ft]
    clear j1 j2 j3 j4
    have hH2 : H.length ≤ (H' ++ (mkN S ++ (mkN S ++ mkN T))).length := by have := hE.le; rw [List.length_append]; omega
    generalize H' ++ (mkN S ++ (mkN S ++ mkN T)) = H2 at *
    have bS : ∀ s ∈ S, (bytes s.s.num.natAbs).length ≤ 8 ∧ (bytes s.s.den).length ≤ 8 := fun s hs => by
      obtain ⟨x1, x2⟩ := F.small s hs
      exact ⟨bl_small (by omega), bl_small (by omega)⟩
    have hS65 := F.len
    refine r_join_blk (fun σ H3 => H3 = H2 ∧ σ 0 = .slice a g.length g.length ∧ σ 1 = .int .i64 (q : Int) ∧ σ 9 = .slice a3 g.length g.length ∧ σ 13 = .slice aS S.length S.length) ?_ ?_
    · refine r_loop (m := fun i => S.length - i) (I := fun i σ H3 => i ≤ S.length ∧ H3 = H2 ∧ σ 0 = .slice a g.length g.length ∧ σ 1 = .int .i64 (q : Int) ∧ σ 9 = .slice a3 g.length g.length ∧ σ 13 = .slice aS S.length S.length ∧ σ 17 = .slice aT T.length T.length ∧ σ 19 = .int .i64 (i : Int)) 0 ⟨Nat.zero_le _, rfl, g0', g1', g9, rfl, rfl, rfl⟩ ?_
      clear g0' g1' g7 g8' g9
      rintro i σ H3 ⟨i1, rfl, g0', g1', g9, g13, g17, g19⟩
      by_cases hi : i < S.length
      · have c1 : ((i : Int) < ((S.length : Nat) : Int)) = True := eq_true (by omega)
        have hiT : i < T.length := by rw [F.tl]; exact hi
        obtain ⟨bS1, oS, BS, rfl, hBS, zS, gS, gSn⟩ := sS1.allS (by omega)
        obtain ⟨bT, oT, BT, rfl, hBT, zT, gT, gTn⟩ := sT.allS (by omega)
        have gs := gS i hi
        have gsn := gSn i hi
        have gt := gT i hiT
        have gtn := gTn i hiT
        obtain ⟨u1, u2⟩ := F.t i hi hiT
        rw [u1] at gtn
        obtain ⟨v1, v2⟩ := bS _ (List.getElem_mem hi)
        have e7 : IntKind.i64.wrap ((i : Int) + 1) = ((i + 1 : Nat) : Int) := by rw [w64 (by omega) (by omega)]; omega
        have kC := fun lk H' => r3_CheckS lk H' S[i].s (by omega) (by omega)
        have kF := fun lk H' => r3_FromInt lk H' 1 (by omega)
        have b1 : (bytes ((1 : Int) : Rat).num.natAbs).length < 1000000 := by
          have : (bytes ((1 : Int) : Rat).num.natAbs).length ≤ 8 := bl_small (by show (1 : Nat) < _; omega)
          omega
        have b2 : (bytes ((1 : Int) : Rat).den).length < 1000000 := by
          have : (bytes ((1 : Int) : Rat).den).length ≤ 8 := bl_small (by show (1 : Nat) < _; omega)
          omega
        have kA := fun lk H' => r3_Add lk H' S[i].s ((1 : Int) : Rat) (by omega) b1 (by omega) b2
        have hT1 : S[i].s + ((1 : Int) : Rat) = T[i].s := u2.symm
        rw [hT1] at kA
        have c2 : (S[i].n = S[i].n) = True := eq_self _
        have c3 : (T[i].s = T[i].s) = True := eq_self _
        simp -dsimp only [go_sem, g13, g17, g19, c1, hBS, zS, gs, gsn, hBT, zT, gt, gtn, hi, hiT, kC, kF, kA, c2, c3, e7]
        exact next (i + 1) (by show S.length - (i + 1) < S.length - i; omega) ⟨hi, rfl, g0', g1', g9, g13, g17, rfl⟩
      · have c1 : ((i : Int) < ((S.length : Nat) : Int)) = False := eq_false (by omega)
        simp -dsimp only [go_sem, g13, g19, c1]
        exact ⟨rfl, g0', g1', g9, g13⟩
    · clear g0' g1' g7 g8' g9
      rintro σ H3 ⟨rfl, g0', g1', g9, g13⟩
      obtain ⟨b, o, B, rfl, hB, hz, hgt⟩ := sF2.int 0 g0
      rw [Nat.zero_mul, Nat.add_zero] at hgt
      have f0 : (0 : Int) < ((g.length : Nat) : Int) := by omega
      have kz := fun lk H' => r2_IsZero lk H' g[0]
      by_cases h0 : g[0] = 0
      · rw [decide_eq_true h0] at kz
        simp -dsimp only [go_sem, g0', eq_true f0, hB, hz, hgt, kz]
      · rw [decide_eq_false h0] at kz
        have j5 := fun lk => (p_Sides lk H3 a3 (g.reverse.map ofI) g.length (q : Int) (by rw [List.length_map, List.length_reverse]) hl' sR.toI).2 _ q rfl rfl (okR fun _ => h0) q2 q3 q4 (by rw [List.length_reverse]; exact g0)
        rw [hDe] at j5
        have ft : (((D.length : Nat) : Int) = ((S.length : Nat) : Int)) = True := eq_true (by rw [F.dl])
        have sD := mk_sl H3 D
        simp -dsimp only [go_sem, g0', g1', g9, g13, eq_true f0, hB, hz, hgt, kz, j5, ft]
        have sS3 := (Ext.app H3 (mkN D)).sl sS1
        generalize mkA H3 D = aD at *
        have hE5 : Ext (H3 ++ mkN D) (H3 ++ mkN D) := Ext.refl _
        refine r_loop (m := fun i => D.length - i) (I := fun i σ H4 => i ≤ D.length ∧ Ext (H3 ++ mkN D) H4 ∧ σ 13 = .slice aS S.length S.length ∧ σ 20 = .slice aD D.length D.length ∧ σ 22 = .int .i64 (i : Int)) 0 ⟨Nat.zero_le _, hE5, g13, rfl, rfl⟩ ?_
        clear g0' g1' g9 g13 hE5
        have hH5 : H.length ≤ (H3 ++ mkN D).length := by rw [List.length_append]; omega
        generalize H3 ++ mkN D = H5 at *
        rintro i σ H4 ⟨i1, hE4, g13, g20, g22⟩
        by_cases hi : i < D.length
        · have c1 : ((i : Int) < ((D.length : Nat) : Int)) = True := eq_true (by omega)
          have hdl := F.dl
          have hj : S.length - 1 - i < S.length := by omega
          obtain ⟨u1, u2⟩ := F.d i hi hj
          obtain ⟨bD, oD, BD, rfl, hBD, zD, gD, gDn⟩ := sD.allS (by omega)
          obtain ⟨b2, o2, B2, rfl, hB2, zS, gS⟩ := sS3.sd (S.length - 1 - i) hj
          have gd := gD i hi
          have gdn := gDn i hi
          rw [u1] at gdn
          have hBD' := hE4.live hBD
          have hB2' := hE4.live hB2
          have e7 : IntKind.i64.wrap ((i : Int) + 1) = ((i + 1 : Nat) : Int) := by rw [w64 (by omega) (by omega)]; omega
          have w1 : IntKind.i64.wrap (((S.length : Nat) : Int) - 1) = ((S.length - 1 : Nat) : Int) := by rw [w64 (by omega) (by omega)]; omega
          have w2 : IntKind.i64.wrap (((S.length - 1 : Nat) : Int) - (i : Int)) = ((S.length - 1 - i : Nat) : Int) := by rw [w64 (by omega) (by omega)]; omega
          have kN := fun lk H' => r3_Neg lk H' S[S.length - 1 - i].s
          rw [← u2] at kN
          have hBD2 : ∀ N, ilive (H4 ++ N) bD = some BD := fun N => ilive_app hBD'
          have c2 : (S[S.length - 1 - i].n = S[S.length - 1 - i].n) = True := eq_self _
          have c3 : (D[i].s = D[i].s) = True := eq_self _
          simp -dsimp only [go_sem, g13, g20, g22, c1, w1, w2, hB2', zS, gS, hj, hBD2, zD, gd, gdn, hi, kN, c2, c3, e7]
          exact ⟨by have := hE4.le; omega, next (i + 1) (by show D.length - (i + 1) < D.length - i; omega) ⟨hi, hE4.more _, g13, g20, rfl⟩⟩
        · have c1 : ((i : Int) < ((D.length : Nat) : Int)) = False := eq_false (by omega)
          simp -dsimp only [go_sem, g20, g22, c1]
end Gx
end
