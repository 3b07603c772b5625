/- Lemmas: plain facts, or contracts of functions that are reached, in the interpreter without world and addresses. -/
import Derived.Test.YtchpchjcghongaaGreatGz17
import Derived.Test.YtchpchjcghongaaGreatGz20
import Derived.Sort.LotA
import Derived.Sort.LotB
import Derived.Sort.LotD3
set_option linter.all false
set_option linter.unusedVariables false
set_option linter.unusedSimpArgs false
set_option linter.unnecessarySimpa false
set_option linter.deprecated false
section
set_option autoImplicit false
namespace Gx
open Go Go.Proofs
set_option maxRecDepth 10000
theorem rcmp_lt (a b : Rat) : rcmp a b < 0 ↔ a < b := by
  have := rcmp_ge a b
  rw [eq_iff_iff] at this
  constructor
  · intro h
    refine Classical.byContradiction fun hn => ?_
    have := this.2 hn
    omega
  · intro h
    refine Classical.byContradiction fun hn => ?_
    exact this.1 (by omega) h
theorem swoS : Go.Sort.SWO ltS where
  irrefl x := decide_eq_false (fun h => Rat.lt_irrefl ((rcmp_lt _ _).1 h))
  trans x y z h1 h2 := by
    have h1 := (rcmp_lt _ _).1 (of_decide_eq_true h1)
    have h2 := (rcmp_lt _ _).1 (of_decide_eq_true h2)
    exact decide_eq_true ((rcmp_lt _ _).2 (Std.lt_trans h1 h2))
  ntrans x y z h1 h2 := by
    have h1 := fun h => of_decide_eq_false h1 ((rcmp_lt _ _).2 h)
    have h2 := fun h => of_decide_eq_false h2 ((rcmp_lt _ _).2 h)
    refine decide_eq_false fun h => ?_
    have h := (rcmp_lt _ _).1 h
    have h1 := Rat.not_lt.1 h1
    have h2 := Rat.not_lt.1 h2
    exact Rat.not_lt.2 (Rat.le_trans h2 h1) h
theorem AllS.bang {d : Array Sd} (h : AllS d) (i : Nat) (hi : i < d.size) : ShS d[i]! := by
  rw [bang_get d i hi]; exact h i hi
theorem AllS.perm {d d' : Array Sd} (h : AllS d) {a e : Nat} (he : e ≤ d.size) (hp : Go.Sort.PermIn a e d d') : AllS d' := by
  intro i hi
  have hi' : i < d.size := by rw [← hp.1]; exact hi
  rw [← bang_get d' i hi]
  by_cases h1 : a ≤ i ∧ i < e
  · exact Go.Sort.permIn_all d d' a e ShS he hp (fun j _ hj => h.bang j (by omega)) i h1.1 h1.2
  · rw [hp.2.1 i (by omega)]; exact h.bang i hi'
/-- What a call comes to, left as it is. -/
def OutH (R : Value → Heap → Prop) (v : Value) (H : Heap) [Tg R] : Prop := R v H
theorem outH {R : Value → Heap → Prop} {v : Value} {H : Heap} (h : R v H) : OutH R v H := h
theorem s_pdq : ∀ (n : Nat) (lk : Nat) (H : Heap) (b : Nat) (d : Array Sd) (a e limit : Nat), e - a ≤ n → a ≤ e → e ≤ d.size → d.size ≤ 100000 → limit ≤ 100000 → lk ≤ b → AllS d → Go.Sort.Below ltS a e d → ilive H b = some ⟨cells d.toList, 4, false⟩ →
    ∃ (R : Array Sd) (N : Heap), gcall Tryz.prog md lk 220 [.slice (some ⟨b, 0, none⟩) d.size d.size, .int .i64 (a : Int), .int .i64 (e : Int), .int .i64 (limit : Int), cmpF] H = some (.tuple #[], H.set b ⟨cells R.toList, 4, false⟩ ++ N) ∧ Go.Sort.PermIn a e d R ∧ Go.Sort.SortedIn ltS a e R := by
  intro n
  induction n using Nat.strongRecOn with
  | _ n ih =>
  intro lk H b d a0 e0 limit0 hn hae he hsz hlim hlk hd hBel hB
  have hbl := ilive_lt hB
  have hl : ∀ (c : List Value) (N : Heap), ilive (H.set b ⟨c, 4, false⟩ ++ N) b = some ⟨c, 4, false⟩ := fun c N => ilive_app (ilive_set_self hbl rfl)
  have hs : ∀ (C C' : Blk) (N : Heap), (H.set b C ++ N).set b C' = H.set b C' ++ N := fun C C' N => by
    have := set_app_l (H.set b C) N C' b (by simpa using hbl)
    rw [List.set_set] at this
    exact this
  have key := pcall_raw (P := Tryz.prog) (md := md) (lk := lk) (g := 220) (fn := Tryz.f220) (args := [.slice (some ⟨b, 0, none⟩) d.size d.size, .int .i64 (a0 : Int), .int .i64 (e0 : Int), .int .i64 (limit0 : Int), cmpF]) (H := H) (by decide) (by decide) (by decide) Tryz.func220 rfl
    (R := fun v H1 => OutH (fun v H1 => v = .tuple #[] ∧ ∃ (R : Array Sd) (N : Heap), H1 = H.set b ⟨cells R.toList, 4, false⟩ ++ N ∧ Go.Sort.PermIn a0 e0 d R ∧ Go.Sort.SortedIn ltS a0 e0 R) v H1) ?_
  · obtain ⟨v, H1, k1, rfl, R, N, rfl, k2, k3⟩ := key
    exact ⟨R, N, by rw [gcall_go Tryz.func220 rfl]; exact k1, k2, k3⟩
  simp -dsimp only [go_sem]
  refine r_loop (m := fun (s : Nat × Nat × Nat × Bool × Bool × Array Sd) => s.2.1 - s.1) (I := fun s σ H' => s.1 ≤ s.2.1 ∧ s.2.1 ≤ d.size ∧ s.2.1 - s.1 ≤ n ∧ s.2.2.1 ≤ 100000 ∧ s.2.2.2.2.2.size = d.size ∧ AllS s.2.2.2.2.2 ∧ Go.Sort.Below ltS s.1 s.2.1 s.2.2.2.2.2 ∧ (∀ R, Go.Sort.PermIn s.1 s.2.1 s.2.2.2.2.2 R → Go.Sort.SortedIn ltS s.1 s.2.1 R → Go.Sort.PermIn a0 e0 d R ∧ Go.Sort.SortedIn ltS a0 e0 R) ∧ (∃ N, H' = H.set b ⟨cells s.2.2.2.2.2.toList, 4, false⟩ ++ N) ∧ σ 0 = .slice (some ⟨b, 0, none⟩) d.size d.size ∧ σ 1 = .int .i64 ((s.1 : Nat) : Int) ∧ σ 2 = .int .i64 ((s.2.1 : Nat) : Int) ∧ σ 3 = .int .i64 ((s.2.2.1 : Nat) : Int) ∧ σ 4 = cmpF ∧ σ 10 = .bool s.2.2.2.1 ∧ σ 11 = .bool s.2.2.2.2.1) (a0, e0, limit0, true, true, d) ⟨hae, he, hn, hlim, rfl, hd, hBel, fun R h1 h2 => ⟨h1, h2⟩, ⟨[], by simp only []; rw [set_same hB]; simp⟩, rfl, rfl, rfl, rfl, rfl, rfl, rfl⟩ ?_
  rintro ⟨a, e, lim, wb, wp, d1⟩ σ H' ⟨hae, he, hn, hlim, z1, hd1, hBel, hfin, ⟨N, rfl⟩, g0, g1, g2, g3, g4, g10, g11⟩
  simp only [] at hae he hn hlim z1 hd1 hBel hfin g1 g2 g3 g10 g11
  have e1 : IntKind.i64.wrap ((e : Int) - (a : Int)) = ((e - a : Nat) : Int) := by rw [w64 (by omega) (by omega)]; omega
  have hed1 : e ≤ d1.size := by omega
  by_cases h12 : e - a ≤ 12
  · have c12 : (((e - a : Nat) : Int) ≤ 12) = True := eq_true (by omega)
    have ks := s_ins lk _ b d1 a e hae hed1 (by omega) hlk hd1 (hl _ N)
    rw [z1, hs] at ks
    have hi := Go.Sort.insertionSort_holds swoS d1 a e hae hed1
    have hf := hfin _ hi.1 hi.2
    simp -dsimp only [go_sem, g0, g1, g2, g3, g4, g10, g11, e1, c12, ks]
    exact outH ⟨rfl, _, _, rfl, hf⟩
  have c12 : (((e - a : Nat) : Int) ≤ 12) = False := eq_false (by omega)
  by_cases hl0 : lim = 0
  · have cl0 : ((lim : Int) = 0) = True := eq_true (by omega)
    have ks := s_heap lk _ b d1 a e (by omega) hed1 (by omega) hlk hd1 (hl _ N)
    rw [z1, hs] at ks
    have hi := Go.Sort.heapSort_holds swoS d1 a e hae hed1
    have hf := hfin _ hi.1 hi.2
    simp -dsimp only [go_sem, g0, g1, g2, g3, g4, g10, g11, e1, c12, cl0, ks]
    exact outH ⟨rfl, _, _, rfl, hf⟩
  have cl0 : ((lim : Int) = 0) = False := eq_false (by omega)
  simp -dsimp only [go_sem, g0, g1, g2, g3, g4, g10, g11, e1, c12, cl0]
  refine gw_join (fun σ H' => ∃ (d2 : Array Sd) (N : Heap) (lim2 : Nat), Go.Sort.PermIn a e d1 d2 ∧ lim2 ≤ 100000 ∧ H' = H.set b ⟨cells d2.toList, 4, false⟩ ++ N ∧ σ 0 = .slice (some ⟨b, 0, none⟩) d.size d.size ∧ σ 1 = .int .i64 ((a : Nat) : Int) ∧ σ 2 = .int .i64 ((e : Nat) : Int) ∧ σ 3 = .int .i64 ((lim2 : Nat) : Int) ∧ σ 4 = cmpF ∧ σ 10 = .bool wb ∧ σ 11 = .bool wp ∧ σ 12 = .int .i64 ((e - a : Nat) : Int)) (fun h => ?_) (fun h => ?_) ?_
  · simp -dsimp only [go_sem]
    exact ⟨d1, N, lim, Go.Sort.permIn_refl d1 a e, hlim, rfl, g0, g1, g2, g3, g4, g10, g11, rfl⟩
  · obtain ⟨r, ks⟩ := s_break lk _ b d1 a e (by omega) hed1 (by omega) hlk hd1 (hl _ N)
    rw [z1, hs, List.append_assoc] at ks
    have e2 : IntKind.i64.wrap ((lim : Int) - 1) = ((lim - 1 : Nat) : Int) := by rw [w64 (by omega) (by omega)]; omega
    simp -dsimp only [go_sem, g0, g1, g2, g3, g4, g10, g11, ks, e2]
    exact ⟨_, _, lim - 1, Go.Sort.breakPatterns_holds d1 a e hae hed1, by omega, rfl, g0, g1, g2, rfl, g4, g10, g11, rfl⟩
  clear g0 g1 g2 g3 g4 g10 g11 cl0 c12
  rintro σ H' ⟨d2, N2, lim2, hp2, hlim2, rfl, g0, g1, g2, g3, g4, g10, g11, g12⟩
  have z2 : d2.size = d.size := by rw [hp2.1]; exact z1
  have hd2 := hd1.perm hed1 hp2
  have hed2 : e ≤ d2.size := by omega
  have kc := s_choose lk _ b d2 a e (by omega) hed2 (by omega) hd2 (hl _ N2)
  rw [z2] at kc
  have hc0 := Go.Sort.choosePivot_holds ltS d2 a e (by omega)
  generalize Go.Sort.choosePivot ltS d2 a e = c at *
  obtain ⟨pv, ht⟩ := c
  simp only [] at kc hc0
  simp -dsimp only [go_sem, g0, g1, g2, g3, g4, g10, g11, kc]
  refine gw_join (fun σ H' => ∃ (d3 : Array Sd) (N : Heap) (pv3 : Nat) (ht3 : Int), Go.Sort.PermIn a e d2 d3 ∧ a ≤ pv3 ∧ pv3 < e ∧ H' = H.set b ⟨cells d3.toList, 4, false⟩ ++ N ∧ σ 0 = .slice (some ⟨b, 0, none⟩) d.size d.size ∧ σ 1 = .int .i64 ((a : Nat) : Int) ∧ σ 2 = .int .i64 ((e : Nat) : Int) ∧ σ 3 = .int .i64 ((lim2 : Nat) : Int) ∧ σ 4 = cmpF ∧ σ 10 = .bool wb ∧ σ 11 = .bool wp ∧ σ 12 = .int .i64 ((e - a : Nat) : Int) ∧ σ 13 = .int .i64 ((pv3 : Nat) : Int) ∧ σ 14 = .int .i64 ht3) (fun h => ?_) (fun h => ?_) ?_
  · have ks := s_rev lk _ b d2 a e (by omega) hed2 (by omega) (by omega) hlk (hl _ N2)
    rw [z2, hs] at ks
    have e2 : IntKind.i64.wrap ((e : Int) - 1) = ((e - 1 : Nat) : Int) := by rw [w64 (by omega) (by omega)]; omega
    have e3 : IntKind.i64.wrap ((pv : Int) - (a : Int)) = ((pv - a : Nat) : Int) := by rw [w64 (by omega) (by omega)]; omega
    have e4 : IntKind.i64.wrap (((e - 1 : Nat) : Int) - ((pv - a : Nat) : Int)) = ((e - 1 - (pv - a) : Nat) : Int) := by rw [w64 (by omega) (by omega)]; omega
    simp -dsimp only [go_sem, g0, g1, g2, g3, g4, g10, g11, ks, e2, e3, e4]
    exact ⟨_, _, e - 1 - (pv - a), 1, Go.Sort.reverseRange_holds d2 a e hae hed2, by omega, by omega, rfl, g0, g1, g2, g3, g4, g10, g11, g12, rfl, rfl⟩
  · simp -dsimp only [go_sem]
    exact ⟨d2, N2, pv, hintN ht, Go.Sort.permIn_refl d2 a e, hc0.1, hc0.2, rfl, g0, g1, g2, g3, g4, g10, g11, g12, rfl, rfl⟩
  clear g0 g1 g2 g3 g4 g10 g11 g12 kc hc0
  rintro σ H' ⟨d3, N3, pv3, ht3, hp3, hpv1, hpv2, rfl, g0, g1, g2, g3, g4, g10, g11, g12, g13, g14⟩
  have z3 : d3.size = d.size := by rw [hp3.1]; exact z2
  have hd3 := hd2.perm hed2 hp3
  have hed3 : e ≤ d3.size := by omega
  have hp13 := Go.Sort.permIn_trans _ _ _ a e hp2 hp3
  have hB3 : Go.Sort.Below ltS a e d3 := hBel.perm hed1 hp13
  have kp := s_pins lk _ b d3 a e (by omega) hed3 (by omega) hlk hd3 (hl _ N3)
  rw [z3, hs] at kp
  have hpi := Go.Sort.partialInsertionSort_holds swoS d3 a e (by omega) hed3 hB3
  generalize Go.Sort.partialInsertionSort ltS d3 a e = pi at *
  obtain ⟨d4, ok⟩ := pi
  simp only [] at kp hpi
  refine r_seq (r_join (fun σ H' => ∃ (d4 : Array Sd) (N : Heap), Go.Sort.PermIn a e d3 d4 ∧ H' = H.set b ⟨cells d4.toList, 4, false⟩ ++ N ∧ σ 0 = .slice (some ⟨b, 0, none⟩) d.size d.size ∧ σ 1 = .int .i64 ((a : Nat) : Int) ∧ σ 2 = .int .i64 ((e : Nat) : Int) ∧ σ 3 = .int .i64 ((lim2 : Nat) : Int) ∧ σ 4 = cmpF ∧ σ 10 = .bool wb ∧ σ 11 = .bool wp ∧ σ 12 = .int .i64 ((e - a : Nat) : Int) ∧ σ 13 = .int .i64 ((pv3 : Nat) : Int)) ?_ ?_)
  · cases wb with
    | false =>
      simp -dsimp only [go_sem, g0, g1, g2, g3, g4, g10, g11, g12, g13, g14]
      exact ⟨d3, N3, Go.Sort.permIn_refl d3 a e, rfl, g0, g1, g2, g3, g4, g10, g11, g12, g13⟩
    | true =>
      cases wp with
      | false =>
        simp -dsimp only [go_sem, g0, g1, g2, g3, g4, g10, g11, g12, g13, g14]
        exact ⟨d3, N3, Go.Sort.permIn_refl d3 a e, rfl, g0, g1, g2, g3, g4, g10, g11, g12, g13⟩
      | true =>
        by_cases h1 : ht3 = 1
        · have ch : (ht3 = 1) = True := eq_true h1
          cases ok with
          | false =>
            simp -dsimp only [go_sem, g0, g1, g2, g3, g4, g10, g11, g12, g13, g14, ch, kp]
            exact ⟨d4, N3, hpi.1, rfl, g0, g1, g2, g3, g4, g10, g11, g12, g13⟩
          | true =>
            have hf := hfin _ (Go.Sort.permIn_trans _ _ _ a e hp13 hpi.1) (hpi.2 rfl)
            simp -dsimp only [go_sem, g0, g1, g2, g3, g4, g10, g11, g12, g13, g14, ch, kp]
            exact outH ⟨rfl, _, _, rfl, hf⟩
        · have ch : (ht3 = 1) = False := eq_false h1
          simp -dsimp only [go_sem, g0, g1, g2, g3, g4, g10, g11, g12, g13, g14, ch]
          exact ⟨d3, N3, Go.Sort.permIn_refl d3 a e, rfl, g0, g1, g2, g3, g4, g10, g11, g12, g13⟩
  clear g0 g1 g2 g3 g4 g10 g11 g12 g13 g14 kp hpi d4
  rintro σ H' ⟨d4, N4, hp4, rfl, g0, g1, g2, g3, g4, g10, g11, g12, g13⟩
  have z4 : d4.size = d.size := by rw [hp4.1]; exact z3
  have hd4 := hd3.perm hed3 hp4
  have hed4 : e ≤ d4.size := by omega
  have hp14 := Go.Sort.permIn_trans _ _ _ a e hp13 hp4
  have hB4 : Go.Sort.Below ltS a e d4 := hBel.perm hed1 hp14
  have hy : pv3 < d4.size := by omega
  have hy' : pv3 < d.size := by omega
  have sy := sdg d4 _ hy
  refine r_seq (r_join (fun σ H' => H' = H.set b ⟨cells d4.toList, 4, false⟩ ++ N4 ∧ σ 0 = .slice (some ⟨b, 0, none⟩) d.size d.size ∧ σ 1 = .int .i64 ((a : Nat) : Int) ∧ σ 2 = .int .i64 ((e : Nat) : Int) ∧ σ 3 = .int .i64 ((lim2 : Nat) : Int) ∧ σ 4 = cmpF ∧ σ 10 = .bool wb ∧ σ 11 = .bool wp ∧ σ 12 = .int .i64 ((e - a : Nat) : Int) ∧ σ 13 = .int .i64 ((pv3 : Nat) : Int)) ?_ ?_)
  · by_cases ha0 : 0 < a
    · have ca : (0 < (a : Int)) = True := eq_true (by omega)
      have e2 : IntKind.i64.wrap ((a : Int) - 1) = ((a - 1 : Nat) : Int) := by rw [w64 (by omega) (by omega)]; omega
      have hx : a - 1 < d4.size := by omega
      have hx' : a - 1 < d.size := by omega
      have sx := sdg d4 _ hx
      have kk := cmpS_run hd4 hx hy
      by_cases hlt : rcmp d4[a - 1].s d4[pv3].s < 0
      · have cl : (rcmp d4[a - 1].s d4[pv3].s < 0) = True := eq_true hlt
        simp -dsimp only [go_sem, g0, g1, g2, g3, g4, g10, g11, g12, g13, ca, e2, hl, sx, sy, hx', hy', kk, cl]
        exact ⟨rfl, g0, g1, g2, g3, g4, g10, g11, g12, g13⟩
      · have cl : (rcmp d4[a - 1].s d4[pv3].s < 0) = False := eq_false hlt
        have kq := s_partEq lk _ b d4 a e pv3 hpv1 hpv2 hed4 (by omega) hlk hd4 (hl _ N4)
        rw [z4, hs] at kq
        generalize hq : Go.Sort.partitionEqual ltS d4 a e pv3 = q at *
        obtain ⟨mid, d5⟩ := q
        obtain ⟨m1, m2, hz5, hB5, hfin5⟩ := Go.Sort.round_eq swoS (Go.Sort.partitionEqual_holds ltS) ha0 hpv1 hpv2 hed4 hB4 (by rw [ltS_bang d4 hx hy]; exact decide_eq_false hlt) hq
        have hperm5 : Go.Sort.PermIn a e d4 d5 := by
          have hge : ∀ i, a ≤ i → i < e → ltS d4[i]! d4[pv3]! = false := fun i hi hi' => by
            rcases hB4 with h0 | hB4
            · omega
            · exact swoS.ntrans _ _ _ (hB4 i hi hi') (by rw [ltS_bang d4 hx hy]; exact decide_eq_false hlt)
          have := (Go.Sort.partitionEqual_holds ltS swoS d4 a e pv3 hpv1 hpv2 hed4 hge).2.2.1
          rw [hq] at this
          exact this
        simp only [] at kq
        simp -dsimp only [go_sem, g0, g1, g2, g3, g4, g10, g11, g12, g13, ca, e2, hl, sx, sy, hx', hy', kk, cl, kq]
        exact next (mid, e, lim2, wb, wp, d5) (by show e - mid < e - a; omega) ⟨m2, he, by simp only []; omega, hlim2, by simp only []; omega, hd4.perm hed4 hperm5, hB5, fun R h1 h2 => by
          obtain ⟨q1, q2⟩ := hfin5 R h1 h2
          exact hfin R (Go.Sort.permIn_trans _ _ _ a e hp14 q1) q2, ⟨_, rfl⟩, g0, rfl, g2, g3, g4, g10, g11⟩
    · have ca : (0 < (a : Int)) = False := eq_false (by omega)
      simp -dsimp only [go_sem, g0, g1, g2, g3, g4, g10, g11, g12, g13, ca]
      exact ⟨rfl, g0, g1, g2, g3, g4, g10, g11, g12, g13⟩
  clear g0 g1 g2 g3 g4 g10 g11 g12 g13
  rintro σ H' ⟨rfl, g0, g1, g2, g3, g4, g10, g11, g12, g13⟩
  have kq := s_part lk _ b d4 a e pv3 hpv1 hpv2 hed4 (by omega) hlk hd4 (hl _ N4)
  rw [z4, hs] at kq
  have hperm5 := (Go.Sort.partition_holds ltS swoS d4 a e pv3 hpv1 hpv2 hed4).2.2.1
  generalize hq : Go.Sort.partition ltS d4 a e pv3 = q at *
  obtain ⟨mid, ap, d5⟩ := q
  obtain ⟨m1, m2, hz5, hBa, hBr, hleft, hright⟩ := Go.Sort.round_part swoS (Go.Sort.partition_holds ltS) hpv1 hpv2 hed4 hB4 hq
  simp only [] at kq hperm5
  have hd5 := hd4.perm hed4 hperm5
  have e2 : IntKind.i64.wrap ((mid : Int) - (a : Int)) = ((mid - a : Nat) : Int) := by rw [w64 (by omega) (by omega)]; omega
  have e3 : IntKind.i64.wrap ((e : Int) - (mid : Int)) = ((e - mid : Nat) : Int) := by rw [w64 (by omega) (by omega)]; omega
  have e4 : IntKind.i64.wrap (Int.tdiv ((e - a : Nat) : Int) 8) = (((e - a) / 8 : Nat) : Int) := by
    rw [show Int.tdiv ((e - a : Nat) : Int) 8 = (((e - a) / 8 : Nat) : Int) from rfl, w64 (by omega) (by omega)]
  have e5 : IntKind.i64.wrap ((mid : Int) + 1) = ((mid + 1 : Nat) : Int) := by rw [w64 (by omega) (by omega)]; omega
  by_cases hlr : mid - a < e - mid
  · have clr : (((mid - a : Nat) : Int) < ((e - mid : Nat) : Int)) = True := eq_true (by omega)
    obtain ⟨L, NL, kr, l1, l2⟩ := ih (mid - a) (by omega) lk _ b d5 a mid lim2 (Nat.le_refl _) m1 (by omega) (by omega) hlim2 hlk hd5 hBa (hl _ N4)
    rw [hz5, z4, hs, List.append_assoc] at kr
    obtain ⟨hBL, hfL⟩ := hleft L l1 l2
    simp -dsimp only [go_sem, g0, g1, g2, g3, g4, g10, g11, g12, g13, kq, e2, e3, e4, e5, clr, kr]
    exact next (mid + 1, e, lim2, _, ap, L) (by show e - (mid + 1) < e - a; omega) ⟨by simp only []; omega, he, by simp only []; omega, hlim2, by simp only []; rw [l1.1]; omega, hd5.perm (by omega) l1, hBL, fun R h1 h2 => by
      obtain ⟨q1, q2⟩ := hfL R h1 h2
      exact hfin R (Go.Sort.permIn_trans _ _ _ a e hp14 q1) q2, ⟨_, rfl⟩, g0, rfl, g2, g3, g4, rfl, rfl⟩
  · have clr : (((mid - a : Nat) : Int) < ((e - mid : Nat) : Int)) = False := eq_false (by omega)
    obtain ⟨L, NL, kr, l1, l2⟩ := ih (e - (mid + 1)) (by omega) lk _ b d5 (mid + 1) e lim2 (Nat.le_refl _) (by omega) (by omega) (by omega) hlim2 hlk hd5 hBr (hl _ N4)
    rw [hz5, z4, hs, List.append_assoc] at kr
    obtain ⟨hBL, hfL⟩ := hright L l1 l2
    simp -dsimp only [go_sem, g0, g1, g2, g3, g4, g10, g11, g12, g13, kq, e2, e3, e4, e5, clr, kr]
    exact next (a, mid, lim2, _, ap, L) (by show mid - a < e - a; omega) ⟨by simp only []; omega, by simp only []; omega, by simp only []; omega, hlim2, by simp only []; rw [l1.1]; omega, hd5.perm (by omega) l1, hBL, fun R h1 h2 => by
      obtain ⟨q1, q2⟩ := hfL R h1 h2
      exact hfin R (Go.Sort.permIn_trans _ _ _ a e hp14 q1) q2, ⟨_, rfl⟩, g0, g1, rfl, g3, g4, rfl, rfl⟩
end Gx
end
section
set_option autoImplicit false
namespace Gx
open Go Go.Proofs
set_option maxRecDepth 10000
section
variable {P : Program} {md : FuncId → Nat} {lk : Nat} {σ : Env} {H : Heap} {Q : Ex → Env → Heap → Prop}
/-- One round of a loop, and the loop again. -/
theorem r_unroll {c : Code} (h : Runs P md lk c σ H (Then P md lk (.loop c) Q)) : Runs P md lk (.loop c) σ H Q := by
  obtain ⟨n, e, σ1, H1, h1, h2⟩ := h
  cases e with
  | normal =>
    obtain ⟨m, e2, σ2, H2, h3, h4⟩ := h2
    refine ⟨max n m + 1, e2, σ2, H2, ?_, h4⟩
    simp only [iexec, iexec_le _ _ (Nat.le_max_left n m) _ _ _ _ _ h1, iexec_le _ _ (Nat.le_max_right n m) _ _ _ _ _ h3]
  | exit id => exact ⟨n + 1, _, _, _, by simp only [iexec, h1], h2⟩
  | ret => exact ⟨n + 1, _, _, _, by simp only [iexec, h1], h2⟩
end
section
variable {α : Type} [Enc α]
/-- A slice that grows, perhaps with room behind it. -/
def OwnP (lo : Nat) (H : Heap) (a : Option Addr) (l : List α) : Prop := (a = none ∧ l = []) ∨ ∃ b B, a = some ⟨b, 0, none⟩ ∧ lo ≤ b ∧ ilive H b = some B ∧ B.sz = Enc.n α ∧ B.c.take (l.length * Enc.n α) = cells l ∧ l.length * Enc.n α ≤ B.c.length
theorem Own.p {lo : Nat} {H : Heap} {a : Option Addr} {l : List α} (h : Own lo H a l) : OwnP lo H a l := by
  rcases h with h | ⟨b, h1, h2, h3⟩
  · exact .inl h
  · refine .inr ⟨b, _, h1, h2, h3, rfl, ?_, by rw [lblk_c, cells_len]; exact Nat.le_refl _⟩
    rw [lblk_c, List.take_of_length_le (by rw [cells_len]; exact Nat.le_refl _)]
theorem SL.first {H : Heap} {a : Option Addr} {l : List α} (h : SL H a l) : ifirst H (Enc.n α) l.length (.slice a l.length l.length) = some (cells l) := by
  rcases h with ⟨rfl, rfl⟩ | ⟨b, o, B, rfl, h2, h3, h4, h5⟩
  · rfl
  · rw [ifirst_eq, if_pos ⟨Nat.le_refl _, rfl⟩]
    by_cases h0 : l.length = 0
    · rw [if_pos h0, List.eq_nil_of_length_eq_zero h0]; rfl
    · rw [if_neg h0, h2]
      simp only [h3, if_true]
      unfold isub
      rw [if_pos h5, h4]
variable {P : Program} {lk : Nat} {t t2 e e2 : TypeId} {k by_ : Nat} {zs : List Value}
/-- A list is put behind a growing slice. -/
theorem ap_all {H0 H : Heap} {a b : Option Addr} {l r : List α} (hE : Ext H0 H) (h : OwnP H0.length H a l) (hr : SL H b r) (hlk : lk ≤ H0.length) (he : telem P t = some e) (he2 : telem P t2 = some e2) (hk : tsz P e = some k) (hb : tbytes P e = some by_) (hz : tzero P e = some zs)
    (hkn : k = Enc.n α) (hk0 : 0 < k) (hzs : zs.length = k) (hb0 : 0 < by_) (hle : (l.length + r.length) * by_ ≤ 70368744177664) :
    ∃ a' H', iappend P lk H t t2 (.slice a l.length l.length) (.slice b r.length r.length) = some (.slice a' (l.length + r.length) (l.length + r.length), H') ∧ Ext H0 H' ∧ Own H0.length H' a' (l ++ r) ∧ (a = none → r = [] → a' = none) := by
  subst hkn
  have hf := hr.first
  rw [iappend_eq]
  simp only [he, he2, hk, hb, hz, ilenOf_eq, hf]
  rw [if_pos ⟨hk0, hzs, hb0⟩]
  rcases h with ⟨rfl, rfl⟩ | ⟨c, B, rfl, h2, h3, h4, h5, h6⟩
  · simp only [List.length_nil, Nat.zero_add, List.nil_append] at hle ⊢
    rw [if_pos hle]
    by_cases h0 : r.length = 0
    · rw [if_pos h0, h0]
      have := List.eq_nil_of_length_eq_zero h0
      subst this
      exact ⟨none, H, rfl, hE, Own.nil, fun _ _ => rfl⟩
    · rw [if_neg h0]
      exact ⟨_, _, rfl, hE.more _, .inr ⟨H.length, rfl, hE.le, ilive_new _ _⟩, fun _ h => absurd (by rw [h]; rfl) h0⟩
  · simp only [h3]
    rw [if_pos ⟨trivial, h4, Nat.le_trans hlk h2, hle, by omega⟩, List.drop_zero, h5, ← cells_app]
    refine ⟨_, _, rfl, (hE.set h2 _).more _, .inr ⟨H.length, rfl, hE.le, ?_⟩, fun h => by cases h⟩
    have := ilive_new (H := H.set c { B with dead := true }) (cells (l ++ r)) (Enc.n α)
    rw [List.length_set] at this
    exact this
end
/-- A sort of a slice. -/
theorem s_sort (lk : Nat) (H : Heap) (b : Nat) (l : List Sd) (hl : l.length ≤ 100000) (hlk : lk ≤ b) (hS : ∀ x ∈ l, ShS x) (hB : ilive H b = some (lblk l)) :
    ∃ (r : List Sd) (N : Heap), gcall Tryz.prog md lk 148 [.slice (some ⟨b, 0, none⟩) l.length l.length, cmpF] H = some (.tuple #[], H.set b (lblk r) ++ N) ∧ r.Perm l ∧ r.Pairwise (fun u v => u.s ≤ v.s) := by
  obtain ⟨d, rfl⟩ : ∃ d : Array Sd, l = d.toList := ⟨l.toArray, by simp⟩
  rw [Array.length_toList] at hl ⊢
  have hd : AllS d := fun i hi => hS _ (Array.getElem_mem_toList hi)
  have hbl := blen_le17 hl
  obtain ⟨R, N, k1, k2, k3⟩ := s_pdq d.size lk H b d 0 d.size (blen d.size) (by omega) (Nat.zero_le _) (Nat.le_refl _) hl (by omega) hlk hd (.inl rfl) hB
  rw [Int.natCast_zero] at k1
  refine ⟨R.toList, N, ?_, ?_, ?_⟩
  · refine gcall_raw (by decide) (by decide) (by decide) Tryz.func148 rfl ?_
    have e1 : IntKind.u64.wrap (d.size : Int) = (d.size : Int) := by rw [IntKind.wrap_u64]; omega
    have kl := fun lk H' => c_Len lk H' d.size (by simp only [B64]; omega)
    simp -dsimp only [go_sem, e1, kl, k1]
    rfl
  · have := k2.2.2
    have e : ∀ A : Array Sd, A.size = d.size → (A.extract 0 d.size).toList = A.toList := fun A hA => by
      rw [Array.toList_extract, List.extract_eq_take_drop, List.drop_zero, List.take_of_length_le (by rw [Array.length_toList]; omega)]
    rw [e _ k2.1, e _ rfl] at this
    exact this
  · rw [List.pairwise_iff_getElem]
    intro i j hi hj hij
    rw [Array.length_toList] at hi hj
    have hsz := k2.1
    have := k3 i j (Nat.zero_le _) hij (by omega)
    rw [ltS_bang R hj hi] at this
    have := fun h => of_decide_eq_false this ((rcmp_lt _ _).2 h)
    have := Rat.not_lt.1 this
    simpa using this
theorem s_sort0 (lk : Nat) (H : Heap) : gcall Tryz.prog md lk 148 [.slice none 0 0, cmpF] H = some (.tuple #[], H) := by
  have k0 : ∀ lk H, gcall Tryz.prog md lk 277 [.slice none 0 0, .int .i64 0, .int .i64 0, cmpF] H = some (.tuple #[], H) := fun lk H => by
    refine gcall_raw (by decide) (by decide) (by decide) Tryz.func277 rfl ?_
    have e1 : IntKind.i64.wrap ((0 : Int) + 1) = 1 := by decide
    simp -dsimp only [go_sem, e1]
    refine r_unroll ?_
    have c1 : ((1 : Int) < 0) = False := eq_false (by decide)
    simp -dsimp only [go_sem, c1]
  have k1 : ∀ lk H lim, gcall Tryz.prog md lk 220 [.slice none 0 0, .int .i64 0, .int .i64 0, .int .i64 lim, cmpF] H = some (.tuple #[], H) := fun lk H lim => by
    refine gcall_raw (by decide) (by decide) (by decide) Tryz.func220 rfl ?_
    have e1 : IntKind.i64.wrap ((0 : Int) - 0) = 0 := by decide
    have c1 : ((0 : Int) ≤ 12) = True := eq_true (by decide)
    simp -dsimp only [go_sem]
    refine r_unroll ?_
    simp -dsimp only [go_sem, e1, c1, k0]
  refine gcall_raw (by decide) (by decide) (by decide) Tryz.func148 rfl ?_
  have e1 : IntKind.u64.wrap ((0 : Nat) : Int) = ((0 : Nat) : Int) := by decide
  have kl := fun lk H' => c_Len lk H' 0 (by decide)
  rw [Int.natCast_zero] at e1 kl
  simp -dsimp only [go_sem, e1, kl, k1]
/-- A sort of a slice that grew. -/
theorem s_sortOwn (lk : Nat) {H0 H : Heap} {a : Option Addr} {l : List Sd} (hE : Ext H0 H) (hO : Own H0.length H a l) (hl : l.length ≤ 100000) (hlk : lk ≤ H0.length) (hS : ∀ x ∈ l, ShS x) :
    ∃ (r : List Sd) (H' : Heap), gcall Tryz.prog md lk 148 [.slice a l.length l.length, cmpF] H = some (.tuple #[], H') ∧ Ext H0 H' ∧ Own H0.length H' a r ∧ r.Perm l ∧ r.Pairwise (fun u v => u.s ≤ v.s) := by
  rcases hO with ⟨rfl, rfl⟩ | ⟨b, rfl, h2, h3⟩
  · exact ⟨[], H, s_sort0 lk H, hE, Own.nil, List.Perm.refl _, List.Pairwise.nil⟩
  · obtain ⟨r, N, k1, k2, k3⟩ := s_sort lk H b l hl (Nat.le_trans hlk h2) hS h3
    exact ⟨r, _, k1, (hE.set h2 _).more _, .inr ⟨b, rfl, h2, ilive_app (ilive_set_self (ilive_lt h3) rfl)⟩, k2, k3⟩
theorem islice_nil0 {P : Program} {H : Heap} (t : TypeId) (k : IntKind) : islice P H t (.slice none 0 0) none (some (.int k 0)) none = if ((telem P t).bind (tsz P)).isSome = true then some (.slice none 0 0) else none := by
  simp [islice, ibound]
theorem te_int : telem Tryz.prog 3 = none := by kernel_rfl
/-- Room for n sides. -/
theorem s_grow (lk : Nat) (H0 H : Heap) (n : Nat) (hn : n ≤ 100000) (hE : Ext H0 H) : ∃ a H', gcall Tryz.prog md lk 219 [.slice none 0 0, .int .i64 (n : Int)] H = some (.slice a 0 0, H') ∧ Ext H0 H' ∧ Ext H H' ∧ OwnP H0.length H' a ([] : List Sd) ∧ (n = 0 → a = none) := by
  have c1 : ((n : Int) < 0) = False := eq_false (by omega)
  have e1 : IntKind.i64.wrap ((0 : Int) - 0) = 0 := by decide
  have e2 : IntKind.i64.wrap ((n : Int) - 0) = (n : Int) := by rw [w64 (by omega) (by omega)]; omega
  by_cases h0 : 0 < n
  · have c2 : (0 < (n : Int)) = True := eq_true (by omega)
    have c3 : ((n : Int) ≤ 9223372036854775807) = True := eq_true (by omega)
    refine ⟨some ⟨H.length, 0, none⟩, H ++ [⟨reps [.bool false, .string (mkS []), .string (mkS []), .int .i64 0] n, 4, false⟩], ?_, hE.more _, Ext.app _ _, .inr ⟨_, _, rfl, hE.le, ilive_new _ _, rfl, by simp [cells], by simp⟩, fun h => by omega⟩
    refine gcall_raw (by decide) (by decide) (by decide) Tryz.func219 rfl ?_
    simp -dsimp only [go_sem, c1, e1, e2, c2, c3, islice_nil0, Option.bind, te_int]
    omega
  · have hn0 : n = 0 := by omega
    subst hn0
    have c2 : (0 < ((0 : Nat) : Int)) = False := eq_false (by omega)
    rw [Int.natCast_zero] at c1 c2 e2 ⊢
    refine ⟨none, H, ?_, hE, Ext.refl _, .inl ⟨rfl, rfl⟩, fun _ => rfl⟩
    refine gcall_raw (by decide) (by decide) (by decide) Tryz.func219 rfl ?_
    simp -dsimp only [go_sem, c1, e1, e2, c2]
end Gx
end
section
set_option autoImplicit false
namespace Gx
open Go Go.Proofs
set_option maxRecDepth 10000
theorem teS : telem Tryz.prog 32 = some 41 := by kernel_rfl
theorem tzS : tsz Tryz.prog 41 = some 4 := by kernel_rfl
theorem tbS : tbytes Tryz.prog 41 = some 48 := by kernel_rfl
theorem toS : tzero Tryz.prog 41 = some [.bool false, .string ByteArray.empty, .string ByteArray.empty, .int .i64 0] := by kernel_rfl
/-- A list of sides is put behind another. -/
theorem ap_sides {lk : Nat} {H0 H : Heap} {a b : Option Addr} {l r : List Sd} (hE : Ext H0 H) (h : OwnP H0.length H a l) (hr : SL H b r) (hlk : lk ≤ H0.length) (hle : l.length + r.length ≤ 1000000) :
    ∃ a' H', iappend Tryz.prog lk H 32 32 (.slice a l.length l.length) (.slice b r.length r.length) = some (.slice a' (l.length + r.length) (l.length + r.length), H') ∧ Ext H0 H' ∧ Own H0.length H' a' (l ++ r) ∧ (a = none → r = [] → a' = none) :=
  ap_all hE h hr hlk teS teS tzS tbS toS rfl (by decide) rfl (by decide) (by omega)
theorem s_concat (lk : Nat) (H : Heap) (c : Nat) (a1 a2 : Option Addr) (l1 l2 : List Sd) (hc : ilive H c = some ⟨[.slice a1 l1.length l1.length, .slice a2 l2.length l2.length], 1, false⟩) (h1 : SL H a1 l1) (h2 : SL H a2 l2) (hl : l1.length + l2.length ≤ 100000) :
    gcall Tryz.prog md lk 147 [.slice (some ⟨c, 0, none⟩) 2 2] H = some (.slice (mkA H (l1 ++ l2)) (l1.length + l2.length) (l1.length + l2.length), H ++ mkN (l1 ++ l2)) := by
  refine gcall_own rfl Tryz.func147 rfl ?_
  have c02 : ((0 : Int) < ((2 : Nat) : Int)) = True := eq_true (by decide)
  have c12 : ((1 : Int) < ((2 : Nat) : Int)) = True := eq_true (by decide)
  have c22 : ((2 : Int) < ((2 : Nat) : Int)) = False := eq_false (by decide)
  have e01 : IntKind.i64.wrap ((0 : Int) + 1) = 1 := by decide
  have e11 : IntKind.i64.wrap ((1 : Int) + 1) = 2 := by decide
  have e1 : IntKind.i64.wrap (0 + (l1.length : Int)) = (l1.length : Int) := by rw [w64 (by omega) (by omega)]; omega
  have e2 : IntKind.i64.wrap ((l1.length : Int) + (l2.length : Int)) = ((l1.length + l2.length : Nat) : Int) := by rw [w64 (by omega) (by omega)]; omega
  have f1 : ((l1.length : Int) < 0) = False := eq_false (by omega)
  have f2 : (((l1.length + l2.length : Nat) : Int) < 0) = False := eq_false (by omega)
  have t0 : Int.toNat 0 = 0 := rfl
  have t1 : Int.toNat 1 = 1 := rfl
  obtain ⟨a0, G0, kg, hE0, hEE0, hO0, hn0⟩ := s_grow H.length H H (l1.length + l2.length) hl (Ext.refl H)
  have hc0 := hE0.live hc
  obtain ⟨a3, G1, k1, hE1, hO1, hn1⟩ := ap_sides hE0 hO0 (hE0.sl h1) (Nat.le_refl H.length) (by simp only [List.length_nil]; omega)
  rw [List.nil_append] at hO1
  rw [List.length_nil, Nat.zero_add] at k1
  have hc1 := hE1.live hc
  obtain ⟨a4, G2, k2, hE2, hO2, hn2⟩ := ap_sides hE1 hO1.p (hE1.sl h2) (Nat.le_refl H.length) (by omega)
  have hiff : a4 = none ↔ l1 ++ l2 = [] := by
    constructor
    · intro h
      rcases hO2 with ⟨_, h2⟩ | ⟨b, h1, _⟩
      · exact h2
      · rw [h] at h1; cases h1
    · intro h
      obtain ⟨x1, x2⟩ := List.append_eq_nil_iff.1 h
      subst x1; subst x2
      exact hn2 (hn1 (hn0 rfl) rfl) rfl
  have hcv := compV_mk hO2 (n := l1.length + l2.length) (by simp) hiff (cells_kok (fun x => rfl) _)
  simp -dsimp only [go_sem]
  refine r_unroll ?_
  simp -dsimp only [go_sem, c02, hc, e01, e1, f1]
  refine r_unroll ?_
  simp -dsimp only [go_sem, c12, hc, e11, e2, f2]
  refine r_unroll ?_
  simp -dsimp only [go_sem, c22, kg]
  refine r_unroll ?_
  simp -dsimp only [go_sem, c02, hc0, e01, k1]
  refine r_unroll ?_
  simp -dsimp only [go_sem, c12, hc1, e11, k2]
  refine r_unroll ?_
  simp -dsimp only [go_sem, c22]
  exact hcv
end Gx
end
section
set_option autoImplicit false
namespace Gx
open Go Go.Proofs
set_option maxRecDepth 10000
theorem lenSum_nonneg : ∀ (l : List Sd), (∀ x ∈ l, 0 < x.n) → 0 ≤ lenSum l ∧ (l.length : Int) ≤ lenSum l ∧ ∀ x ∈ l, x.n ≤ lenSum l
  | [], _ => ⟨Int.le_refl _, Int.le_refl _, fun x hx => by simp at hx⟩
  | y :: r, h => by
    have ih := lenSum_nonneg r (fun x hx => h x (List.mem_cons_of_mem _ hx))
    have hy := h y (by simp)
    refine ⟨?_, ?_, fun x hx => ?_⟩
    · show 0 ≤ y.n + lenSum r; omega
    · show ((r.length + 1 : Nat) : Int) ≤ y.n + lenSum r; omega
    · show x.n ≤ y.n + lenSum r
      rcases List.mem_cons.1 hx with rfl | hx
      · omega
      · have := ih.2.2 x hx; omega
theorem lenSum_bounds (l : List Sd) (h : ∀ x ∈ l, 0 < x.n) (i : Nat) (hi : i ≤ l.length) : 0 ≤ lenSum (l.take i) ∧ lenSum (l.take i) ≤ lenSum l := by
  have h1 := lenSum_nonneg (l.take i) (fun x hx => h x (List.mem_of_mem_take hx))
  have h2 := lenSum_nonneg (l.drop i) (fun x hx => h x (List.mem_of_mem_drop hx))
  have h3 : lenSum l = lenSum (l.take i) + lenSum (l.drop i) := by rw [← lenSum_app, List.take_append_drop]
  omega
theorem lenSum_perm {a b : List Sd} (h : a.Perm b) : lenSum a = lenSum b := by
  induction h with
  | nil => rfl
  | cons x _ ih => simp only [lenSum, ih]
  | swap x y l => simp only [lenSum]; omega
  | trans _ _ h1 h2 => rw [h1, h2]
theorem mg_sum (l : List Sd) (h : ∀ x ∈ l, 0 < x.n) : (∀ y ∈ mg l, 0 < y.n) ∧ lenSum (mg l) = lenSum l ∧ (mg l).length ≤ l.length := by
  have : ∀ n, n ≤ l.length → (∀ y ∈ mg (l.take n), 0 < y.n) ∧ lenSum (mg (l.take n)) = lenSum (l.take n) ∧ (mg (l.take n)).length ≤ n := by
    intro n
    induction n with
    | zero => intro _; exact ⟨fun y hy => by simp [mg] at hy, rfl, Nat.le_refl _⟩
    | succ n ih =>
      intro hn
      obtain ⟨h1, h2, h3⟩ := ih (by omega)
      have hx := h l[n] (List.getElem_mem _)
      have et : l.take (n + 1) = l.take n ++ [l[n]] := by
        rw [List.take_add_one, List.getElem?_eq_getElem (by omega), Option.toList_some]
      rw [et, mg_app, lenSum_app, ← h2]
      generalize mg (l.take n) = out at *
      generalize l[n] = x at *
      unfold mgStep
      rcases List.eq_nil_or_concat out with rfl | ⟨o, y, rfl⟩
      · simp only [List.getLast?_nil]
        exact ⟨fun z hz => by simp at hz; rw [hz]; exact hx, by simp [lenSum], by simp⟩
      · rw [List.concat_eq_append] at *
        simp only [List.getLast?_append, List.getLast?_singleton, Option.some_or, List.dropLast_concat]
        by_cases he : y.s = x.s
        · rw [if_pos he]
          have hy := h1 y (by simp)
          refine ⟨fun z hz => ?_, ?_, ?_⟩
          · rcases List.mem_append.1 hz with hz | hz
            · exact h1 z (List.mem_append_left _ hz)
            · simp at hz; rw [hz]; show 0 < y.n + x.n; omega
          · simp only [lenSum_app, lenSum]; omega
          · simp at h3 ⊢; omega
        · rw [if_neg he]
          refine ⟨fun z hz => ?_, ?_, ?_⟩
          · rcases List.mem_append.1 hz with hz | hz
            · exact h1 z hz
            · simp at hz; rw [hz]; exact hx
          · rw [lenSum_app]
          · simp at h3 ⊢; omega
  have := this l.length (Nat.le_refl _)
  rwa [List.take_length] at this
theorem ownThru {α : Type} [Enc α] {lo : Nat} {H : Heap} {a b : Option Addr} {l : List α} (h : Own lo H a l) (hne : ∀ c o e c' o' e', a = some ⟨c, o, e⟩ → b = some ⟨c', o', e'⟩ → c' ≠ c) (N M : Heap) : Own lo (Gx.kill (H ++ N) b ++ M) a l := by
  rcases h with h | ⟨c, h1, h2, h3⟩
  · exact .inl h
  · exact .inr ⟨c, h1, h2, ilive_app (kill_other (ilive_app h3) (fun c' o' e' hb => hne c 0 none c' o' e' h1 hb))⟩
theorem ownLt {α : Type} [Enc α] {lo : Nat} {H : Heap} {a : Option Addr} {l : List α} (h : Own lo H a l) : ∀ c o e, a = some ⟨c, o, e⟩ → lo ≤ c ∧ c < H.length := by
  intro c o e ha
  rcases h with ⟨h, _⟩ | ⟨b, h, h2, h4⟩
  · rw [h] at ha; cases ha
  · rw [h] at ha; cases ha; exact ⟨h2, ilive_lt h4⟩
theorem iput_last (A : List Value) (e0 e1 e2 e3 v : Value) : iput (A ++ [e0, e1, e2, e3]) (A.length + 3) [v] = A ++ [e0, e1, e2, v] := by
  unfold iput
  rw [List.take_append, List.drop_append]
  rw [List.take_of_length_le (by omega), List.drop_of_length_le (by simp; omega), Nat.add_sub_cancel_left, show A.length + 3 + [v].length - A.length = 4 by simp; omega]
  simp
theorem isub3 {c : List Value} {o : Nat} {w x y z : Value} (h : isub c o 4 = some [w, x, y, z]) : isub c o 3 = some [w, x, y] := by
  unfold isub at h ⊢
  split at h
  · injection h with h
    rw [if_pos (by omega)]
    congr 1
    have : ((c.drop o).take 4).take 3 = [w, x, y] := by rw [h]; rfl
    rw [← this, List.take_take]; rfl
  · cases h
theorem ckS_ok {l : List Sd} (h : ckS l = 0) : l.length ≤ 64 ∧ (∀ x ∈ l, 0 < x.n) ∧ lenSum l ≤ 64 ∧ asc l := by
  unfold ckS at h
  split at h
  · cases h
  · rename_i h1
    split at h
    · rename_i h2; exact absurd h h2
    · rename_i h2
      split at h
      · cases h
      · rename_i h3
        split at h
        · cases h
        · rename_i h4
          have h2 : oneFirst l = 0 := Classical.not_not.1 h2
          have key : ∀ l : List Sd, oneFirst l = 0 → ∀ x ∈ l, oneE x = 0 := by
            intro l
            induction l with
            | nil => intro _ x hx; simp at hx
            | cons y r ih =>
              intro h x hx
              unfold oneFirst at h
              by_cases hy : oneE y ≠ 0
              · rw [if_pos hy] at h; exact absurd h hy
              · rw [if_neg hy] at h
                rcases List.mem_cons.1 hx with rfl | hx
                · exact Classical.not_not.1 hy
                · exact ih h x hx
          exact ⟨by omega, fun x hx => by have := oneE_pos (key l h2 x hx); omega, by omega, Classical.not_not.1 h3⟩
theorem p_Sum (lk : Nat) (H : Heap) (a1 a2 : Option Addr) (l1 l2 : List Sd) (hsa1 : SL H a1 l1) (hsa2 : SL H a2 l2) (m1 : ∀ x ∈ l1, SmS x) (m2 : ∀ x ∈ l2, SmS x) (k1 : ckS l1 = 0) (k2 : ckS l2 = 0) (hsum : lenSum l1 + lenSum l2 ≤ 64) :
    ∃ s : List Sd, s.Perm (l1 ++ l2) ∧ s.Pairwise (fun u v => u.s ≤ v.s) ∧ gcall Tryz.prog md lk 65 [.slice a1 l1.length l1.length, .slice a2 l2.length l2.length] H = some (.tuple #[.slice (mkA H (mg s)) (mg s).length (mg s).length, .int .i64 0], H ++ mkN (mg s)) := by
  have key := gcall_own_ex (P := Tryz.prog) (md := md) (lk := lk) (g := 65) (fn := Tryz.f65) (args := [.slice a1 l1.length l1.length, .slice a2 l2.length l2.length]) (H := H) rfl Tryz.func65 rfl
    (R := fun v N => ∃ s : List Sd, s.Perm (l1 ++ l2) ∧ s.Pairwise (fun u v => u.s ≤ v.s) ∧ v = .tuple #[.slice (mkA H (mg s)) (mg s).length (mg s).length, .int .i64 0] ∧ N = mkN (mg s)) ?_
  · obtain ⟨v, N, h1, s, h2, h3, rfl, rfl⟩ := key
    exact ⟨s, h2, h3, h1⟩
  obtain ⟨n1, hpl1, b1, _⟩ := ckS_ok k1
  obtain ⟨n2, hpl2, b2, _⟩ := ckS_ok k2
  have q1 := (lenSum_nonneg l1 hpl1).1
  have q2 := (lenSum_nonneg l2 hpl2).1
  have kc1 := fun lk H' (hE : Ext H H') => p_Check lk H' a1 l1 l1.length rfl (by omega) m1 (hE.sl hsa1)
  have kc2 := fun lk H' (hE : Ext H H') => p_Check lk H' a2 l2 l2.length rfl (by omega) m2 (hE.sl hsa2)
  rw [k1] at kc1
  rw [k2] at kc2
  have c02 : ((0 : Int) < ((2 : Nat) : Int)) = True := eq_true (by decide)
  have c12 : ((1 : Int) < ((2 : Nat) : Int)) = True := eq_true (by decide)
  have c22 : ((2 : Int) < ((2 : Nat) : Int)) = False := eq_false (by decide)
  have e01 : IntKind.i64.wrap ((0 : Int) + 1) = 1 := by decide
  have e11 : IntKind.i64.wrap ((1 : Int) + 1) = 2 := by decide
  have kc1' := kc1 H.length (H ++ [⟨[.slice a1 l1.length l1.length, .slice a2 l2.length l2.length], 1, false⟩]) (Ext.app _ _)
  simp -dsimp only [go_sem, reps]
  refine r_unroll ?_
  simp -dsimp only [go_sem, c02, kc1']
  refine r_loop_to 2 (J := fun σ H' => Ext H H' ∧ ilive H' H.length = some ⟨[.slice a1 l1.length l1.length, .slice a2 l2.length l2.length], 1, false⟩ ∧ σ 0 = .slice a1 l1.length l1.length ∧ σ 1 = .slice a2 l2.length l2.length ∧ σ 19 = .slice (some ⟨H.length, 0, none⟩) 2 2 ∧ σ 20 = .int .i64 ((2 : Nat) : Int) ∧ σ 21 = .int .i64 0 ∧ σ 6 = .int .i64 (0 + lenSum l1)) (m := fun i : Nat => l1.length - i) (I := fun (i : Nat) σ H' => i ≤ l1.length ∧ Ext H H' ∧ ilive H' H.length = some ⟨[.slice a1 l1.length l1.length, .slice a2 l2.length l2.length], 1, false⟩ ∧ σ 0 = .slice a1 l1.length l1.length ∧ σ 1 = .slice a2 l2.length l2.length ∧ σ 19 = .slice (some ⟨H.length, 0, none⟩) 2 2 ∧ σ 20 = .int .i64 ((2 : Nat) : Int) ∧ σ 21 = .int .i64 0 ∧ σ 6 = .int .i64 (0 + lenSum (l1.take i)) ∧ σ 30 = .slice a1 l1.length l1.length ∧ σ 31 = .int .i64 (l1.length : Int) ∧ σ 32 = .int .i64 (i : Int)) 0 ⟨Nat.zero_le _, Ext.app _ _, ilive_new _ _, rfl, rfl, rfl, rfl, rfl, by simp [lenSum, go_sem], rfl, rfl, rfl⟩ ?_ ?_
  · rintro i σ H' ⟨i1, hE, hc, g0, g1, g19, g20, g21, g6, g30, g31, g32⟩
    by_cases hi : i < l1.length
    · have c1 : ((i : Int) < (l1.length : Int)) = True := eq_true (by omega)
      obtain ⟨b, o, B, heq, hB, hz, hg⟩ := (hE.sl hsa1).sd i hi
      subst heq
      have hlo := hE.le
      have hst := lenSum_take l1 i hi
      have hb := lenSum_bounds l1 hpl1 i (by omega)
      have hb2 := lenSum_bounds l1 hpl1 (i + 1) (by omega)
      have e7 : IntKind.i64.wrap ((i : Int) + 1) = ((i + 1 : Nat) : Int) := by rw [w64 (by omega) (by omega)]; omega
      have e8 : IntKind.i64.wrap (0 + lenSum (l1.take i) + l1[i].n) = 0 + lenSum (l1.take (i + 1)) := by rw [w64 (by omega) (by omega), hst]; omega
      simp -dsimp only [go_sem, g6, g30, g31, g32, c1, hB, hz, hg, hi, e7, e8, hlo]
      exact next (i + 1) (by show l1.length - (i + 1) < l1.length - i; omega) ⟨hi, hE.more _, ilive_app hc, g0, g1, g19, g20, g21, rfl, g30, g31, rfl⟩
    · have c1 : ((i : Int) < (l1.length : Int)) = False := eq_false (by omega)
      have hil : i = l1.length := by omega
      rw [hil, List.take_length] at g6
      simp -dsimp only [go_sem, g31, g32, c1]
      exact mk ⟨hE, hc, g0, g1, g19, g20, g21, g6⟩
  rintro σ H1 ⟨hE1, hc1, g0, g1, g19, g20, g21, g6⟩
  simp -dsimp only [go_sem, g21, e01]
  refine r_unroll ?_
  have kc2' := kc2 H.length H1 hE1
  simp -dsimp only [go_sem, g19, g20, c12, hc1, kc2']
  refine r_loop_to 2 (J := fun σ H' => Ext H H' ∧ ilive H' H.length = some ⟨[.slice a1 l1.length l1.length, .slice a2 l2.length l2.length], 1, false⟩ ∧ σ 0 = .slice a1 l1.length l1.length ∧ σ 1 = .slice a2 l2.length l2.length ∧ σ 19 = .slice (some ⟨H.length, 0, none⟩) 2 2 ∧ σ 20 = .int .i64 ((2 : Nat) : Int) ∧ σ 21 = .int .i64 1 ∧ σ 6 = .int .i64 (0 + lenSum l1 + lenSum l2)) (m := fun i : Nat => l2.length - i) (I := fun (i : Nat) σ H' => i ≤ l2.length ∧ Ext H H' ∧ ilive H' H.length = some ⟨[.slice a1 l1.length l1.length, .slice a2 l2.length l2.length], 1, false⟩ ∧ σ 0 = .slice a1 l1.length l1.length ∧ σ 1 = .slice a2 l2.length l2.length ∧ σ 19 = .slice (some ⟨H.length, 0, none⟩) 2 2 ∧ σ 20 = .int .i64 ((2 : Nat) : Int) ∧ σ 21 = .int .i64 1 ∧ σ 6 = .int .i64 (0 + lenSum l1 + lenSum (l2.take i)) ∧ σ 30 = .slice a2 l2.length l2.length ∧ σ 31 = .int .i64 (l2.length : Int) ∧ σ 32 = .int .i64 (i : Int)) 0 ⟨Nat.zero_le _, hE1, hc1, g0, g1, g19, g20, rfl, by simp only [List.take_zero, lenSum, Int.add_zero]; exact g6, rfl, rfl, rfl⟩ ?_ ?_
  · rintro i σ H' ⟨i1, hE, hc, g0, g1, g19, g20, g21, g6, g30, g31, g32⟩
    by_cases hi : i < l2.length
    · have c1 : ((i : Int) < (l2.length : Int)) = True := eq_true (by omega)
      obtain ⟨b, o, B, heq, hB, hz, hg⟩ := (hE.sl hsa2).sd i hi
      subst heq
      have hlo := hE.le
      have hst := lenSum_take l2 i hi
      have hb := lenSum_bounds l2 hpl2 i (by omega)
      have hb2 := lenSum_bounds l2 hpl2 (i + 1) (by omega)
      have e7 : IntKind.i64.wrap ((i : Int) + 1) = ((i + 1 : Nat) : Int) := by rw [w64 (by omega) (by omega)]; omega
      have e8 : IntKind.i64.wrap (0 + lenSum l1 + lenSum (l2.take i) + l2[i].n) = 0 + lenSum l1 + lenSum (l2.take (i + 1)) := by rw [w64 (by omega) (by omega), hst]; omega
      simp -dsimp only [go_sem, g6, g30, g31, g32, c1, hB, hz, hg, hi, e7, e8, hlo]
      exact next (i + 1) (by show l2.length - (i + 1) < l2.length - i; omega) ⟨hi, hE.more _, ilive_app hc, g0, g1, g19, g20, g21, rfl, g30, g31, rfl⟩
    · have c1 : ((i : Int) < (l2.length : Int)) = False := eq_false (by omega)
      have hil : i = l2.length := by omega
      rw [hil, List.take_length] at g6
      simp -dsimp only [go_sem, g31, g32, c1]
      exact mk ⟨hE, hc, g0, g1, g19, g20, g21, g6⟩
  clear g0 g1 g19 g20 g21 g6
  rintro σ H2 ⟨hE2, hc2, g0, g1, g19, g20, g21, g6⟩
  simp -dsimp only [go_sem, g21, e11]
  refine r_unroll ?_
  have c64 : (64 < 0 + lenSum l1 + lenSum l2) = False := eq_false (by omega)
  have hc3 := ilive_new (H := H2) [.slice a1 l1.length l1.length, .slice a2 l2.length l2.length] 1
  have hE3 : Ext H (H2 ++ [⟨[.slice a1 l1.length l1.length, .slice a2 l2.length l2.length], 1, false⟩]) := hE2.more _
  have kcc := s_concat H.length _ H2.length a1 a2 l1 l2 hc3 (hE3.sl hsa1) (hE3.sl hsa2) (by omega)
  have hOr := mk_own (H2 ++ [(⟨[.slice a1 l1.length l1.length, .slice a2 l2.length l2.length], 1, false⟩ : Blk)]) (l1 ++ l2)
  have hlo3 : H.length ≤ (H2 ++ [(⟨[.slice a1 l1.length l1.length, .slice a2 l2.length l2.length], 1, false⟩ : Blk)]).length := hE3.le
  have hmem : ∀ x ∈ l1 ++ l2, SmS x ∧ 0 < x.n := fun x hx => by
    rcases List.mem_append.1 hx with h | h
    · exact ⟨m1 x h, hpl1 x h⟩
    · exact ⟨m2 x h, hpl2 x h⟩
  have hShS : ∀ x ∈ l1 ++ l2, ShS x := fun x hx => by
    have h := (hmem x hx).1
    have := bl_of_small h.2
    have := h.1
    exact ⟨by omega, by omega⟩
  obtain ⟨s, H4, ks, hE4, hO4, hperm, hsort⟩ := s_sortOwn H.length (hE3.more (mkN (l1 ++ l2))) (hOr.low hlo3) (by rw [List.length_append]; omega) (Nat.le_refl _) hShS
  have hlen : s.length = (l1 ++ l2).length := hperm.length_eq
  rw [← hlen] at ks
  rw [List.length_append] at hlen
  rw [← hlen] at kcc
  simp only [List.append_assoc, List.cons_append, List.nil_append] at ks
  simp -dsimp only [go_sem, g0, g1, g20, c22, g6, c64, reps, kcc, ks]
  generalize mkA (H2 ++ [(⟨[.slice a1 l1.length l1.length, .slice a2 l2.length l2.length], 1, false⟩ : Blk)]) (l1 ++ l2) = a at *
  clear kcc ks g0 g1 g19 g20 g21 g6 hc3 hE3 hOr hlo3 hc1 hc2 hE1 hE2 kc1' kc2' c64
  have hps : ∀ x ∈ s, 0 < x.n := fun x hx => (hmem x (hperm.mem_iff.1 hx)).2
  have hs64 : (s.length : Int) ≤ lenSum s := (lenSum_nonneg s hps).2.1
  have hls : lenSum s ≤ 64 := by rw [lenSum_perm hperm, lenSum_app]; omega
  have hne : ∀ c o e c' o' e', a = some ⟨c, o, e⟩ → (none : Option Addr) = some ⟨c', o', e'⟩ → c' ≠ c := fun c o e c' o' e' _ h => by cases h
  refine r_loop (m := fun (t : Nat × Option Addr) => s.length - t.1) (I := fun t σ H' => t.1 ≤ s.length ∧ Ext H H' ∧ Own H.length H' a s ∧ Own H.length H' t.2 (mg (s.take t.1)) ∧ (t.2 = none ↔ mg (s.take t.1) = []) ∧ (∀ c o e c' o' e', a = some ⟨c, o, e⟩ → t.2 = some ⟨c', o', e'⟩ → c' ≠ c) ∧ σ 13 = .slice t.2 (mg (s.take t.1)).length (mg (s.take t.1)).length ∧ σ 50 = .slice a s.length s.length ∧ σ 51 = .int .i64 (s.length : Int) ∧ σ 52 = .int .i64 (t.1 : Int)) (0, none) ?_ ?_
  · exact ⟨Nat.zero_le _, hE4, hO4, .inl ⟨rfl, rfl⟩, ⟨fun _ => rfl, fun _ => rfl⟩, hne, rfl, rfl, rfl, rfl⟩
  clear hE4 hO4 hne
  rintro ⟨i, ao⟩ σ H' ⟨i1, hE, hOs, hOo, hN, hne, g13, g50, g51, g52⟩
  simp only [] at i1 hOo hN hne g13 g52
  by_cases hi : i < s.length
  · have c1 : ((i : Int) < ((s.length : Nat) : Int)) = True := eq_true (by omega)
    obtain ⟨b, o, B, heq, hB, hz, hg⟩ := hOs.sl.sd i hi
    subst heq
    have hlo := hE.le
    have e7 : IntKind.i64.wrap ((i : Int) + 1) = ((i + 1 : Nat) : Int) := by rw [w64 (by omega) (by omega)]; omega
    have et : s.take (i + 1) = s.take i ++ [s[i]] := by
      rw [List.take_add_one, List.getElem?_eq_getElem hi, Option.toList_some]
    have hms := mg_sum (s.take i) (fun x hx => hps x (List.mem_of_mem_take hx))
    have hlb := lenSum_bounds s hps i (by omega)
    have hlb2 := lenSum_bounds s hps (i + 1) (by omega)
    have hst := lenSum_take s i hi
    have hstep : mg (s.take (i + 1)) = mgStep (mg (s.take i)) s[i] := by rw [et, mg_app]
    have hxn := hps s[i] (List.getElem_mem hi)
    have hol2 := hms.2.2
    rw [List.length_take] at hol2
    generalize hout : mg (s.take i) = out at *
    have hbox : (⟨[.bool (decide (s[i].s.num < 0)), .string (mkS (bytes s[i].s.num.natAbs)), .string (mkS (bytes s[i].s.den)), .int .i64 s[i].n], 4, false⟩ : Blk) = ⟨Enc.enc s[i], 4, false⟩ := rfl
    have hO3 := hOo.more [⟨[.bool (decide (s[i].s.num < 0)), .string (mkS (bytes s[i].s.num.natAbs)), .string (mkS (bytes s[i].s.den)), .int .i64 s[i].n], 4, false⟩]
    have hap := fun t t2 => ap_own (P := Tryz.prog) (lk := H.length) (t := t) (t2 := t2) hO3 (Nat.le_refl _) rfl [.bool (decide (s[i].s.num < 0)), .string (mkS (bytes s[i].s.num.natAbs)), .string (mkS (bytes s[i].s.den)), .int .i64 s[i].n] 4 rfl rfl
    have hO2 := own_ap (lo := H.length) (H := H' ++ [⟨[.bool (decide (s[i].s.num < 0)), .string (mkS (bytes s[i].s.num.natAbs)), .string (mkS (bytes s[i].s.den)), .int .i64 s[i].n], 4, false⟩]) (a := ao) (l := out) s[i] [⟨[.bool (decide (s[i].s.num < 0)), .string (mkS (bytes s[i].s.num.natAbs)), .string (mkS (bytes s[i].s.den)), .int .i64 s[i].n], 4, false⟩] (by simp; omega)
    have hE2 : Ext H (kill (H' ++ [⟨[.bool (decide (s[i].s.num < 0)), .string (mkS (bytes s[i].s.num.natAbs)), .string (mkS (bytes s[i].s.den)), .int .i64 s[i].n], 4, false⟩] ++ [⟨[.bool (decide (s[i].s.num < 0)), .string (mkS (bytes s[i].s.num.natAbs)), .string (mkS (bytes s[i].s.den)), .int .i64 s[i].n], 4, false⟩]) ao) := (hO3.more _).kill ((hE.more _).more _)
    have hOs2 := ownThru (hOs.more [⟨[.bool (decide (s[i].s.num < 0)), .string (mkS (bytes s[i].s.num.natAbs)), .string (mkS (bytes s[i].s.den)), .int .i64 s[i].n], 4, false⟩]) hne [⟨[.bool (decide (s[i].s.num < 0)), .string (mkS (bytes s[i].s.num.natAbs)), .string (mkS (bytes s[i].s.den)), .int .i64 s[i].n], 4, false⟩] [⟨cells out ++ [.bool (decide (s[i].s.num < 0)), .string (mkS (bytes s[i].s.num.natAbs)), .string (mkS (bytes s[i].s.den)), .int .i64 s[i].n], 4, false⟩]
    have hlt := ownLt hOs
    have henc : (Enc.enc s[i] : List Value) = [.bool (decide (s[i].s.num < 0)), .string (mkS (bytes s[i].s.num.natAbs)), .string (mkS (bytes s[i].s.den)), .int .i64 s[i].n] := rfl
    rw [henc] at hO2
    simp only [List.append_assoc, List.cons_append, List.nil_append, List.length_append, List.length_cons, List.length_nil, Nat.add_assoc, Nat.zero_add, Nat.reduceAdd] at hap hO2 hE2 hOs2
    have happ : mgStep out s[i] = out ++ [s[i]] → Runs Tryz.prog md H.length .skip σ H' (fun _ _ _ => True) := fun _ => r_skip trivial
    clear happ
    rcases List.eq_nil_or_concat out with hnil | ⟨pre, y, hcon⟩
    · have cl : ((out.length : Int) > 0) = False := eq_false (by rw [hnil]; simp)
      have cl' : (0 < (out.length : Int)) = False := eq_false (by rw [hnil]; simp)
      have hm1 : mg (s.take (i + 1)) = out ++ [s[i]] := by rw [hstep, hnil]; rfl
      simp -dsimp only [go_sem, g13, g50, g51, g52, c1, hB, hz, hg, hi, hlo, cl', e7, reps, hap]
      refine ⟨by omega, next (i + 1, some ⟨H'.length + 2, 0, none⟩) (by show s.length - (i + 1) < s.length - i; omega) ⟨hi, hE2.more _, hOs2, by simp only []; rw [hm1]; exact hO2, by simp only []; rw [hm1]; simp, fun c o e c' o' e' h1 h2 => by cases h2; have := hlt c o e h1; omega, ?_, g50, g51, rfl⟩⟩
      simp only [upd, hm1, List.length_append]; rfl
    · rw [List.concat_eq_append] at hcon
      have hol : out.length = pre.length + 1 := by rw [hcon]; simp
      have cl' : (0 < (out.length : Int)) = True := eq_true (by omega)
      have e1 : IntKind.i64.wrap ((out.length : Int) - 1) = (pre.length : Int) := by rw [w64 (by omega) (by omega)]; omega
      have hyn := hms.1 y (by rw [hcon]; simp)
      have hysum := (lenSum_nonneg out hms.1).2.2 y (by rw [hcon]; simp)
      obtain ⟨bo, hbo, hbo2, hBo⟩ : ∃ bo, ao = some ⟨bo, 0, none⟩ ∧ H.length ≤ bo ∧ ilive H' bo = some (lblk out) := by
        rcases hOo with ⟨_, h⟩ | h
        · rw [h] at hcon; simp at hcon
        · exact h
      subst hbo
      have hplt : pre.length < out.length := by omega
      have hBo2 : ilive (H' ++ [⟨[.bool (decide (s[i].s.num < 0)), .string (mkS (bytes s[i].s.num.natAbs)), .string (mkS (bytes s[i].s.den)), .int .i64 s[i].n], 4, false⟩]) bo = some ⟨cells out, 4, false⟩ := ilive_app hBo
      have sy : isub (cells out) (pre.length * 4) 4 = some [.bool (decide (y.s.num < 0)), .string (mkS (bytes y.s.num.natAbs)), .string (mkS (bytes y.s.den)), .int .i64 y.n] := by
        have := sd_isub out pre.length hplt
        have hy : out[pre.length] = y := by simp [hcon]
        rw [hy] at this; exact this
      have sy3 := isub3 sy
      have hq : ibin Tryz.prog .eql 39 (.agg #[.bool (decide (y.s.num < 0)), .string (mkS (bytes y.s.num.natAbs)), .string (mkS (bytes y.s.den))]) (.agg #[.bool (decide (s[i].s.num < 0)), .string (mkS (bytes s[i].s.num.natAbs)), .string (mkS (bytes s[i].s.den))]) = some (.bool (decide (y.s = s[i].s))) := vR_eql y.s s[i].s
      have hsv : ∀ v : Int, 0 < v → True := fun _ _ => trivial
      by_cases he : y.s = s[i].s
      · have ce : (y.s = s[i].s) = True := eq_true he
        have hm1 : mg (s.take (i + 1)) = pre ++ [⟨y.s, y.n + s[i].n⟩] := by
          rw [hstep, hcon]
          unfold mgStep
          simp only [List.getLast?_append, List.getLast?_singleton, Option.some_or, List.dropLast_concat]
          rw [if_pos he]
        have hlen1 : (mg (s.take (i + 1))).length = out.length := by rw [hm1, hcon]; simp
        have e2 : IntKind.i64.wrap (y.n + s[i].n) = y.n + s[i].n := by rw [w64 (by omega) (by omega)]
        have sn : (cells out)[pre.length * 4 + 3]? = some (.int .i64 y.n) := isub_get sy 3 (by omega)
        have hput : iput (cells out) (pre.length * 4 + 3) [.int .i64 (y.n + s[i].n)] = cells (mg (s.take (i + 1))) := by
          rw [hm1, hcon, cells_app, cells_app]
          have := iput_last (cells pre) (.bool (decide (y.s.num < 0))) (.string (mkS (bytes y.s.num.natAbs))) (.string (mkS (bytes y.s.den))) (.int .i64 y.n) (.int .i64 (y.n + s[i].n))
          rw [cells_len] at this
          exact this
        have hcl : (cells out).length = out.length * 4 := cells_len out
        have hbl : bo < H'.length := ilive_lt hBo
        simp -dsimp only [go_sem, g13, g50, g51, g52, c1, hB, hz, hg, hi, hlo, cl', e1, hBo2, sy3, hplt, hq, ce, sn, e2, e7, hput]
        have hne2 : ∀ c o e, some (⟨b, o, none⟩ : Addr) = some ⟨c, o, e⟩ → c ≠ bo := fun c o' e h => by
          cases h
          exact fun h => hne b o none bo 0 none rfl rfl h.symm
        refine ⟨⟨hbo2, by omega⟩, next (i + 1, some ⟨bo, 0, none⟩) (by show s.length - (i + 1) < s.length - i; omega) ⟨hi, (hE.more _).set hbo2 _, ?_, ?_, ?_, hne, ?_, g50, g51, rfl⟩⟩
        · refine Own.set (hOs.more _) ?_
          intro c o' e h
          have := hne c o' e bo 0 none h rfl
          exact fun h => this h.symm
        · refine .inr ⟨bo, rfl, hbo2, ?_⟩
          exact ilive_set_self (by rw [List.length_append]; omega) rfl
        · simp only []; rw [hm1]; simp
        · simp only [upd, hlen1]; simpa using g13
      · have ce : (y.s = s[i].s) = False := eq_false he
        have hm1 : mg (s.take (i + 1)) = out ++ [s[i]] := by
          rw [hstep, hcon]
          unfold mgStep
          simp only [List.getLast?_append, List.getLast?_singleton, Option.some_or, List.dropLast_concat]
          rw [if_neg he]
        simp -dsimp only [go_sem, g13, g50, g51, g52, c1, hB, hz, hg, hi, hlo, cl', e1, hBo2, sy3, hplt, hq, ce, e7, reps, hap]
        refine ⟨by omega, next (i + 1, some ⟨H'.length + 2, 0, none⟩) (by show s.length - (i + 1) < s.length - i; omega) ⟨hi, hE2.more _, hOs2, by simp only []; rw [hm1]; exact hO2, by simp only []; rw [hm1]; simp, fun c o e c' o' e' h1 h2 => by cases h2; have := hlt c o e h1; omega, ?_, g50, g51, rfl⟩⟩
        simp only [upd, hm1, List.length_append]; rfl
  · have c1 : ((i : Int) < ((s.length : Nat) : Int)) = False := eq_false (by omega)
    have hil : i = s.length := by omega
    subst hil
    rw [List.take_length] at hOo hN g13
    have hc := compV_mkE (e := 0) hOo rfl hN (cells_kok (fun x => rfl) _)
    simp -dsimp only [go_sem, g13, g51, g52, c1]
    exact ⟨_, _, hc, s, hperm, hsort, rfl, rfl⟩
end Gx
end
section
set_option autoImplicit false
namespace Gx
open Go Go.Proofs
set_option maxRecDepth 10000
/-- A side as it comes. -/
structure RS where
  neg : Bool
  abs : List UInt8
  den : List UInt8
  n : Int
instance : Enc RS := ⟨fun x => [.bool x.neg, .string (mkS x.abs), .string (mkS x.den), .int .i64 x.n], 4, fun _ => rfl⟩
abbrev vRS (x : RS) : Value := .agg #[.bool x.neg, .string (mkS x.abs), .string (mkS x.den), .int .i64 x.n]
abbrev vRR (x : RS) : Value := .agg #[.bool x.neg, .string (mkS x.abs), .string (mkS x.den)]
/-- What comes is a side. -/
def VS (x : RS) (s : Sd) : Prop := x.neg = decide (s.s.num < 0) ∧ x.abs = bytes s.s.num.natAbs ∧ x.den = bytes s.s.den ∧ x.n = s.n
/-- Its bytes are not many. -/
def ShR (x : RS) : Prop := x.abs.length ≤ 20 ∧ x.den.length ≤ 20
/-- Its bytes are no numbers. -/
def badR (x : RS) : Prop := (x.abs.head? = some 0 ∨ (x.neg = true ∧ x.abs = [])) ∨ x.den.head? = some 0 ∨ x.den = []
theorem VS.good {x : RS} {s : Sd} (h : VS x s) : ¬ badR x := by
  obtain ⟨h1, h2, h3, h4⟩ := h
  rintro ((h | ⟨h, h'⟩) | h | h)
  · rw [h2] at h; exact bytes_ne_zero _ _ h rfl
  · rw [h1] at h
    rw [h2, bytes_eq_nil] at h'
    have := of_decide_eq_true h
    omega
  · rw [h3] at h; exact bytes_ne_zero _ _ h rfl
  · rw [h3, bytes_eq_nil] at h; exact s.s.den_nz h
theorem RS.numbers {x : RS} (h : ¬ badR x) : ∃ (z : Int) (d : Nat), d ≠ 0 ∧ x.neg = decide (z < 0) ∧ x.abs = bytes z.natAbs ∧ x.den = bytes d := by
  have h1 : ¬ x.abs.head? = some 0 := fun h' => h (.inl (.inl h'))
  have h2 : ¬ (x.neg = true ∧ x.abs = []) := fun h' => h (.inl (.inr h'))
  have h3 : ¬ x.den.head? = some 0 := fun h' => h (.inr (.inl h'))
  have h4 : ¬ x.den = [] := fun h' => h (.inr (.inr h'))
  have b1 : bytes (bval x.abs) = x.abs := bytes_bval _ (fun y hy h0 => by subst h0; exact h1 hy)
  have b2 : bytes (bval x.den) = x.den := bytes_bval _ (fun y hy h0 => by subst h0; exact h3 hy)
  have d0 : bval x.den ≠ 0 := fun h0 => h4 (by rw [← b2, bytes_eq_nil]; exact h0)
  refine ⟨sg x.neg (bval x.abs), bval x.den, d0, ?_, by rw [sg_natAbs, b1], b2.symm⟩
  unfold sg
  cases hn : x.neg with
  | false => rw [if_neg (by decide)]; exact (decide_eq_false (by omega)).symm
  | true =>
    rw [if_pos rfl]
    have : bval x.abs ≠ 0 := fun h0 => h2 ⟨hn, by rw [← b1, bytes_eq_nil]; exact h0⟩
    exact (decide_eq_true (by omega)).symm
theorem RS.side {x : RS} {z : Int} {d : Nat} (hd : d ≠ 0) (h1 : x.neg = decide (z < 0)) (h2 : x.abs = bytes z.natAbs) (h3 : x.den = bytes d) : (∃ s, VS x s) ↔ Nat.gcd z.natAbs d = 1 := by
  constructor
  · rintro ⟨s, g1, g2, g3, g4⟩
    have e1 : s.s.num.natAbs = z.natAbs := by rw [h2] at g2; exact (bytes_inj.1 g2).symm
    have e2 : s.s.den = d := by rw [h3] at g3; exact (bytes_inj.1 g3).symm
    rw [← e1, ← e2]; exact s.s.reduced
  · intro h
    exact ⟨⟨⟨z, d, hd, h⟩, x.n⟩, h1, h2, h3, rfl⟩
open Classical in
/-- The error of a fraction as it comes. -/
noncomputable def ckR (x : RS) : Int := if ∃ s, VS x s then 0 else 1
theorem ckR_bad {x : RS} (h : badR x) : ckR x = 1 := by
  unfold ckR; rw [if_neg]; rintro ⟨s, hs⟩; exact hs.good h
theorem ckI_sh {x : RS} (h : ShR x) : ckI ⟨x.neg, x.abs⟩ = if x.abs.head? = some 0 ∨ (x.neg = true ∧ x.abs = []) then 1 else 0 := by
  have := h.1
  show (if x.abs.head? = some 0 ∨ (x.neg = true ∧ x.abs = []) then (1 : Int) else if 1024 < x.abs.length then 4 else 0) = _
  rw [if_neg (show ¬ 1024 < x.abs.length by omega)]
theorem p_ratRaw (lk : Nat) (H : Heap) (x : RS) (hx : ShR x) : gcall Tryz.prog md lk 225 [vRR x] H = some (.int .i64 (ckR x), H) := by
  refine gcall_val rfl Tryz.func225 rfl rfl ?_
  unfold vRR
  have k1 := fun lk H' => p_intCheck lk H' ⟨x.neg, x.abs⟩
  rw [ckI_sh hx] at k1
  have k2 := fun lk H' => p_natCheck lk H' x.den
  have hl := hx.2
  rw [if_neg (show ¬ 1024 < x.den.length by omega)] at k2
  by_cases b1 : x.abs.head? = some 0 ∨ (x.neg = true ∧ x.abs = [])
  · rw [if_pos b1] at k1
    rw [ckR_bad (.inl b1)]
    simp -dsimp only [go_sem, k1, k2]
  · rw [if_neg b1] at k1
    by_cases b2 : x.den.head? = some 0
    · rw [if_pos b2] at k2
      rw [ckR_bad (.inr (.inl b2))]
      simp -dsimp only [go_sem, k1, k2]
    · rw [if_neg b2] at k2
      by_cases b3 : x.den = []
      · rw [ckR_bad (.inr (.inr b3))]
        rw [b3] at k2 ⊢
        simp -dsimp only [go_sem, k1, k2]
      · have hb : ¬ badR x := by rintro (h | h | h) <;> contradiction
        obtain ⟨z, d, hd, h1, h2, h3⟩ := RS.numbers hb
        have hs := RS.side hd h1 h2 h3
        have l1 := hx.1
        have b3' : (x.den = []) = False := eq_false b3
        have one : [1] = bytes 1 := bytes_one.symm
        rw [h2] at k1 l1 ⊢
        rw [h3] at k2 hl b3' ⊢
        have k3 := fun lk H' => c_NatGcd lk H' z.natAbs d (by omega) (by omega)
        unfold ckR
        by_cases hd1 : d = 1
        · have f1 : (d = 1) = True := eq_true hd1
          rw [if_pos (hs.2 (by rw [hd1, Nat.gcd_one_right]))]
          simp -dsimp only [go_sem, k1, k2, b3', one, f1]
        · have f1 : (d = 1) = False := eq_false hd1
          by_cases hg : Nat.gcd z.natAbs d = 1
          · have f2 : (Nat.gcd z.natAbs d = 1) = True := eq_true hg
            rw [if_pos (hs.2 hg)]
            simp -dsimp only [go_sem, k1, k2, b3', one, f1, k3, f2]
          · have f2 : (Nat.gcd z.natAbs d = 1) = False := eq_false hg
            rw [if_neg (fun h => hg (hs.1 h))]
            simp -dsimp only [go_sem, k1, k2, b3', one, f1, k3, f2]
theorem r3_CheckRaw (lk : Nat) (H : Heap) (x : RS) (hx : ShR x) : gcall Tryz.prog md lk 21 [vRR x] H = some (.int .i64 (ckR x), H) := by
  refine gcall_val rfl Tryz.func21 rfl rfl ?_
  unfold vRR
  have k1 := fun lk H' => r2_Valid lk H' ⟨x.neg, x.abs⟩
  have k2 := fun lk H' => r1_Valid lk H' x.den
  have l1 := hx.1
  have hl := hx.2
  by_cases b1 : x.abs.head? = some 0 ∨ (x.neg = true ∧ x.abs = [])
  · have e : (decide (x.abs.head? ≠ some 0) && (!x.neg || decide (x.abs ≠ []))) = false := by
      rcases b1 with h | ⟨h, h'⟩
      · simp [h]
      · simp [h, h']
    simp only [e] at k1
    rw [ckR_bad (.inl b1)]
    simp -dsimp only [go_sem, k1, k2]
  · have e : (decide (x.abs.head? ≠ some 0) && (!x.neg || decide (x.abs ≠ []))) = true := by
      have h1 : ¬ x.abs.head? = some 0 := fun h => b1 (.inl h)
      have h2 : ¬ (x.neg = true ∧ x.abs = []) := fun h => b1 (.inr h)
      cases hn : x.neg with
      | false => simp [h1]
      | true =>
        have : x.abs ≠ [] := fun h => h2 ⟨hn, h⟩
        simp [h1, this]
    simp only [e] at k1
    by_cases b2 : x.den.head? = some 0
    · rw [decide_eq_false (fun h => h b2)] at k2
      rw [ckR_bad (.inr (.inl b2))]
      simp -dsimp only [go_sem, k1, k2]
    · rw [decide_eq_true b2] at k2
      by_cases b3 : x.den = []
      · rw [ckR_bad (.inr (.inr b3))]
        rw [b3] at k2 ⊢
        simp -dsimp only [go_sem, k1, k2]
      · have hb : ¬ badR x := by rintro (h | h | h) <;> contradiction
        have kf : ∀ lk H', gcall Tryz.prog md lk 95 [vRR x] H' = some (.int .i64 0, H') := fun lk H' => by
          refine gcall_val rfl Tryz.func95 rfl rfl ?_
          have q1 := fun lk H' => r2_Fits lk H' ⟨x.neg, x.abs⟩
          have q2 := fun lk H' => r1_Fits lk H' x.den
          simp only [if_neg (show ¬ 1024 < x.abs.length by omega)] at q1
          simp only [if_neg (show ¬ 1024 < x.den.length by omega)] at q2
          simp -dsimp only [go_sem, q1, q2]
        obtain ⟨z, d, hd, h1, h2, h3⟩ := RS.numbers hb
        have hs := RS.side hd h1 h2 h3
        have b3' : (x.den = []) = False := eq_false b3
        have one : [1] = bytes 1 := bytes_one.symm
        unfold vRR at kf
        rw [h2] at k1 l1 kf ⊢
        rw [h3] at k2 hl b3' kf ⊢
        have k3 := fun lk H' => r1_Gcd lk H' z.natAbs d (by omega) (by omega)
        unfold ckR
        by_cases hg : Nat.gcd z.natAbs d = 1
        · have f2 : (Nat.gcd z.natAbs d = 1) = True := eq_true hg
          rw [if_pos (hs.2 hg)]
          simp -dsimp only [go_sem, k1, k2, b3', one, kf, k3, f2]
        · have f2 : (Nat.gcd z.natAbs d = 1) = False := eq_false hg
          rw [if_neg (fun h => hg (hs.1 h))]
          simp -dsimp only [go_sem, k1, k2, b3', one, kf, k3, f2]
/-- The error of a side, whatever its slope. -/
theorem p_oneG (lk : Nat) (H : Heap) (x : Sd) (h1 : (bytes x.s.num.natAbs).length ≤ 1024) (h2 : (bytes x.s.den).length ≤ 1024) : gcall Tryz.prog md lk 151 [vSd x] H = some (.int .i64 (oneE x), H) := by
  by_cases hd6 : x.s.den ≤ 1000000
  · exact p_one lk H x h1 hd6
  · refine gcall_val rfl Tryz.func151 rfl rfl ?_
    have k1 := fun lk H' => p_ratCheck lk H' x.s h1 h2
    have k2 := fun lk H' => IntTo_nat lk H' x.s.den (by omega)
    unfold oneE
    by_cases a1 : x.n < 1
    · rw [if_pos (Or.inl a1)]
      simp -dsimp only [go_sem, k1, a1]
    · by_cases a2 : 64 < x.n
      · rw [if_pos (Or.inr a2)]
        simp -dsimp only [go_sem, k1, a1, a2]
      · rw [if_neg (by omega), if_pos (.inl (by omega))]
        by_cases hI : I64 (x.s.den : Int)
        · rw [if_pos hI, decide_eq_true hI] at k2
          have a3 : (x.n < (x.s.den : Int)) = True := eq_true (by omega)
          simp -dsimp only [go_sem, k1, a1, a2, k2, a3]
        · rw [if_neg hI, decide_eq_false hI] at k2
          simp -dsimp only [go_sem, k1, a1, a2, k2]
open Classical in
/-- The error of a side as it comes. -/
noncomputable def oneX (x : RS) : Int := if h : ∃ s, VS x s then oneE h.choose else 1
theorem VS.uniq {x : RS} {s t : Sd} (h : VS x s) (h' : VS x t) : s = t := by
  obtain ⟨a1, a2, a3, a4⟩ := h
  obtain ⟨b1, b2, b3, b4⟩ := h'
  have e1 : s.s.num = t.s.num := vI_inj (by rw [← a1, ← b1]) (by rw [a2] at b2; exact bytes_inj.1 b2)
  have e2 : s.s.den = t.s.den := by rw [a3] at b3; exact bytes_inj.1 b3
  have e3 : s.s = t.s := Rat.ext e1 e2
  cases s; cases t
  simp only [] at e3 a4 b4
  rw [e3, ← a4, b4]
theorem oneX_side {x : RS} {s : Sd} (h : VS x s) : oneX x = oneE s := by
  unfold oneX
  have hx : ∃ s, VS x s := ⟨s, h⟩
  rw [dif_pos hx, hx.choose_spec.uniq h]
theorem oneX_bad {x : RS} (h : ¬ ∃ s, VS x s) : oneX x = 1 := by unfold oneX; rw [dif_neg h]
theorem VS.enc {x : RS} {s : Sd} (h : VS x s) : (Enc.enc x : List Value) = Enc.enc s := by
  obtain ⟨a1, a2, a3, a4⟩ := h
  show [Value.bool x.neg, .string (mkS x.abs), .string (mkS x.den), .int .i64 x.n] = [Value.bool (decide (s.s.num < 0)), .string (mkS (bytes s.s.num.natAbs)), .string (mkS (bytes s.s.den)), .int .i64 s.n]
  rw [a1, a2, a3, a4]
theorem p_oneX (lk : Nat) (H : Heap) (x : RS) (hx : ShR x) : gcall Tryz.prog md lk 151 [vRS x] H = some (.int .i64 (oneX x), H) := by
  by_cases h : ∃ s, VS x s
  · obtain ⟨s, hs⟩ := h
    rw [oneX_side hs]
    have hx1 := hx.1
    have hx2 := hx.2
    obtain ⟨a1, a2, a3, a4⟩ := hs
    rw [a2] at hx1
    rw [a3] at hx2
    have := p_oneG lk H s (by omega) (by omega)
    unfold vRS
    rw [a1, a2, a3, a4]
    exact this
  · rw [oneX_bad h]
    refine gcall_val rfl Tryz.func151 rfl rfl ?_
    have k1 := fun lk H' => p_ratRaw lk H' x hx
    have hc : ckR x = 1 := by unfold ckR; rw [if_neg h]
    rw [hc] at k1
    simp -dsimp only [go_sem, k1]
end Gx
end
section
set_option autoImplicit false
namespace Gx
open Go Go.Proofs
set_option maxRecDepth 10000
open Classical in
/-- The side that comes, if it is one. -/
noncomputable def sdOf (x : RS) : Sd := if h : ∃ s, VS x s then h.choose else default
theorem sdOf_side {x : RS} {s : Sd} (h : VS x s) : sdOf x = s := by
  unfold sdOf
  have hx : ∃ s, VS x s := ⟨s, h⟩
  rw [dif_pos hx]
  exact hx.choose_spec.uniq h
theorem oneX_zero {x : RS} (h : oneX x = 0) : VS x (sdOf x) ∧ oneE (sdOf x) = 0 := by
  by_cases hv : ∃ s, VS x s
  · obtain ⟨s, hs⟩ := hv
    rw [sdOf_side hs]
    rw [oneX_side hs] at h
    exact ⟨hs, h⟩
  · rw [oneX_bad hv] at h; cases h
/-- The first error of a list of sides. -/
noncomputable def firstX : List RS → Int
  | [] => 0
  | x :: r => if oneX x ≠ 0 then oneX x else firstX r
theorem firstX_drop (f : List RS) (i : Nat) (h : i < f.length) : firstX (f.drop i) = if oneX f[i] ≠ 0 then oneX f[i] else firstX (f.drop (i + 1)) := by
  rw [List.drop_eq_getElem_cons h]; rfl
theorem firstX_zero : ∀ {f : List RS}, firstX f = 0 → ∀ x ∈ f, oneX x = 0
  | [], _, x, hx => by simp at hx
  | y :: r, h, x, hx => by
    unfold firstX at h
    by_cases hy : oneX y ≠ 0
    · rw [if_pos hy] at h; exact absurd h hy
    · rw [if_neg hy] at h
      rcases List.mem_cons.1 hx with rfl | hx
      · exact Classical.not_not.1 hy
      · exact firstX_zero h x hx
/-- The error of a list of sides as it comes. -/
noncomputable def ckX (f : List RS) : Int := if 64 < f.length then 5 else if firstX f ≠ 0 then firstX f else ckS (f.map sdOf)
theorem cells_sides : ∀ {f : List RS}, (∀ x ∈ f, oneX x = 0) → cells (f.map sdOf) = cells f
  | [], _ => rfl
  | x :: r, h => by
    rw [List.map_cons, cells_cons, cells_cons, (oneX_zero (h x (by simp))).1.enc, cells_sides (fun y hy => h y (List.mem_cons_of_mem _ hy))]
theorem SL.sides {H : Heap} {a : Option Addr} {f : List RS} (hs : SL H a f) (h : ∀ x ∈ f, oneX x = 0) : SL H a (f.map sdOf) := by
  rcases hs with ⟨h1, h2⟩ | ⟨b, o, B, h1, h2, h3, h4, h5⟩
  · exact .inl ⟨h1, by rw [h2]; rfl⟩
  · exact .inr ⟨b, o, B, h1, h2, h3, by rw [List.length_map, cells_sides h]; exact h4, by rw [List.length_map]; exact h5⟩
theorem SL.rs {H : Heap} {a : Option Addr} {f : List RS} (h : SL H a f) (i : Nat) (hi : i < f.length) : ∃ b o B, a = some ⟨b, o, none⟩ ∧ ilive H b = some B ∧ B.sz = 4 ∧ isub B.c (o + i * 4) 4 = some [.bool f[i].neg, .string (mkS f[i].abs), .string (mkS f[i].den), .int .i64 f[i].n] := h.get i hi
theorem sides_small2 {f : List RS} (hf : ∀ x ∈ f, ShR x) (h : ∀ x ∈ f, oneX x = 0) : ∀ s ∈ f.map sdOf, SmS s ∧ oneE s = 0 ∧ (bytes s.s.num.natAbs).length ≤ 20 ∧ s.s.den ≤ 64 := by
  intro s hs
  obtain ⟨x, hx, rfl⟩ := List.mem_map.1 hs
  obtain ⟨⟨a1, a2, a3, a4⟩, h2⟩ := oneX_zero (h x hx)
  have hsh := hf x hx
  have l1 := hsh.1
  rw [a2] at l1
  have hp := oneE_pos h2
  have hd : ((sdOf x).s.den : Int) ≤ (sdOf x).n := by
    unfold oneE at h2
    rw [if_neg (by omega)] at h2
    by_cases hc : (sdOf x).n < ((sdOf x).s.den : Int) ∨ (sdOf x).n % ((sdOf x).s.den : Int) ≠ 0
    · rw [if_pos hc] at h2; cases h2
    · omega
  exact ⟨⟨by omega, by omega⟩, h2, l1, by omega⟩
/-- The program's check of a list of sides as it comes. -/
theorem p_CheckX (lk : Nat) (H : Heap) (a : Option Addr) (f : List RS) (hl : f.length ≤ 9223372036854775807) (hf : ∀ x ∈ f, ShR x) (hs : SL H a f) : gcall Tryz.prog md lk 67 [.slice a f.length f.length] H = some (.int .i64 (ckX f), H) := by
  by_cases h0 : firstX f = 0
  · have hz := firstX_zero h0
    have := p_Check lk H a (f.map sdOf) f.length (by rw [List.length_map]) hl (fun s hs => (sides_small2 hf hz s hs).1) (hs.sides hz)
    rw [this]
    unfold ckX
    by_cases h64 : 64 < f.length
    · rw [if_pos h64]; unfold ckS; rw [if_pos (by rw [List.length_map]; exact h64)]
    · rw [if_neg h64, if_neg (fun h => h h0)]
  · refine gcall_val rfl Tryz.func67 rfl rfl ?_
    unfold ckX
    by_cases h64 : 64 < f.length
    · have f1 : (64 < ((f.length : Nat) : Int)) = True := eq_true (by omega)
      rw [if_pos h64]
      simp -dsimp only [go_sem, f1]
    · have f1 : (64 < ((f.length : Nat) : Int)) = False := eq_false (by omega)
      rw [if_neg h64, if_pos h0]
      simp -dsimp only [go_sem, f1]
      refine r_loop (m := fun i => f.length - i) (I := fun i σ H' => i ≤ f.length ∧ Ext H H' ∧ firstX f = firstX (f.drop i) ∧ (∃ s : Int, 0 ≤ s ∧ s ≤ 64 * i ∧ σ 3 = .int .i64 s) ∧ σ 11 = .slice a f.length f.length ∧ σ 12 = .int .i64 (f.length : Int) ∧ σ 13 = .int .i64 (i : Int)) 0 ⟨Nat.zero_le _, Ext.refl _, rfl, ⟨0, Int.le_refl _, by decide, rfl⟩, rfl, rfl, rfl⟩ ?_
      rintro i σ H' ⟨h1, hE, hF, ⟨s, s0, s1, h3⟩, h11, h12, h13⟩
      by_cases hi : i < f.length
      · have f2 : ((i : Int) < ((f.length : Nat) : Int)) = True := eq_true (by omega)
        obtain ⟨b, o, B, rfl, hB, hz, hg⟩ := hs.rs i hi
        have hB' := hE.live hB
        have e7 : IntKind.i64.wrap ((i : Int) + 1) = ((i + 1 : Nat) : Int) := by rw [w64 (by omega) (by omega)]; omega
        have hc := fun lk H' => p_oneX lk H' f[i] (hf _ (List.getElem_mem hi))
        rw [firstX_drop f i hi] at hF
        have hlo := hE.le
        by_cases hk : oneX f[i] = 0
        · have f3 : (oneX f[i] = 0) = True := eq_true hk
          rw [if_neg (fun h => h hk)] at hF
          obtain ⟨hv, ho⟩ := oneX_zero hk
          have hpos := oneE_pos ho
          rw [← hv.2.2.2] at hpos
          have e8 : IntKind.i64.wrap (s + f[i].n) = s + f[i].n := by rw [w64 (by omega) (by omega)]
          simp -dsimp only [go_sem, h3, h11, h12, h13, f2, hB', hz, hg, hi, hc, f3, e7, e8, hlo]
          exact next (i + 1) (by show f.length - (i + 1) < f.length - i; omega) ⟨hi, hE.more _, hF, ⟨s + f[i].n, by omega, by omega, rfl⟩, h11, h12, rfl⟩
        · have f3 : (oneX f[i] = 0) = False := eq_false hk
          rw [if_pos hk] at hF
          rw [hF]
          simp -dsimp only [go_sem, h3, h11, h12, h13, f2, hB', hz, hg, hi, hc, f3, hlo]
      · have hi' : i = f.length := by omega
        subst hi'
        rw [List.drop_length] at hF
        exact absurd hF h0
/-- The reference's check of a list of sides as it comes. -/
theorem r13_CheckX (lk : Nat) (H : Heap) (a : Option Addr) (f : List RS) (hl : f.length ≤ 9223372036854775807) (hf : ∀ x ∈ f, ShR x) (hs : SL H a f) : gcall Tryz.prog md lk 68 [.slice a f.length f.length] H = some (.int .i64 (ckX f), H) := by
  refine gcall_val rfl Tryz.func68 rfl rfl ?_
  unfold ckX
  by_cases h64 : 64 < f.length
  · have f1 : (64 < ((f.length : Nat) : Int)) = True := eq_true (by omega)
    rw [if_pos h64]
    simp -dsimp only [go_sem, f1]
  have f1 : (64 < ((f.length : Nat) : Int)) = False := eq_false (by omega)
  rw [if_neg h64]
  simp -dsimp only [go_sem, f1]
  refine r_join_blk (fun σ H' => firstX f = 0 ∧ H' = H ∧ σ 0 = .slice a f.length f.length ∧ σ 3 = .int .i64 (lenSum (f.map sdOf))) ?_ ?_
  · refine r_loop (m := fun i => f.length - i) (I := fun i σ H' => i ≤ f.length ∧ H' = H ∧ firstX f = firstX (f.drop i) ∧ 0 ≤ lenSum ((f.map sdOf).take i) ∧ lenSum ((f.map sdOf).take i) ≤ 64 * i ∧ σ 0 = .slice a f.length f.length ∧ σ 3 = .int .i64 (lenSum ((f.map sdOf).take i)) ∧ σ 4 = .int .i64 (i : Int)) 0 ⟨Nat.zero_le _, rfl, rfl, Int.le_refl _, by simp [lenSum], rfl, by simp [lenSum, go_sem], rfl⟩ ?_
    rintro i σ H' ⟨h1, rfl, hF, hs0, hs1, g0, g3, g4⟩
    by_cases hi : i < f.length
    · have f2 : ((i : Int) < ((f.length : Nat) : Int)) = True := eq_true (by omega)
      obtain ⟨b, o, B, rfl, hB, hz, hg⟩ := hs.rs i hi
      have hg3 := isub3 hg
      have hgn : B.c[o + i * 4 + 3]? = some (.int .i64 f[i].n) := isub_get hg 3 (by omega)
      have e7 : IntKind.i64.wrap ((i : Int) + 1) = ((i + 1 : Nat) : Int) := by rw [w64 (by omega) (by omega)]; omega
      have hsh := hf _ (List.getElem_mem hi)
      have kc := fun lk H' => r3_CheckRaw lk H' f[i] hsh
      rw [firstX_drop f i hi] at hF
      by_cases hv : ∃ s, VS f[i] s
      · have hck : ckR f[i] = 0 := by unfold ckR; rw [if_pos hv]
        rw [hck] at kc
        obtain ⟨s, hvs⟩ := hv
        have hss := sdOf_side hvs
        rw [oneX_side hvs] at hF
        have hst := lenSum_take (f.map sdOf) i (by rw [List.length_map]; exact hi)
        rw [List.getElem_map, hss] at hst
        have hv2 := hvs
        obtain ⟨a1, a2, a3, a4⟩ := hv2
        have hl2 := hsh.2
        rw [a3] at hl2
        have kw : ∀ lk H', gcall Tryz.prog md lk 106 [.agg #[.bool f[i].neg, .string (mkS f[i].abs), .string (mkS f[i].den)]] H' = some (.int .i64 (whole s.s), H') := fun lk H' => by
          have := r13_whole lk H' s.s (by omega)
          unfold vR at this
          rw [a1, a2, a3]
          exact this
        rw [a4] at hgn
        by_cases n1 : s.n < 1
        · have ho : oneE s = 3 := by unfold oneE; rw [if_pos (.inl n1)]
          rw [ho, if_pos (by decide)] at hF
          rw [hF, if_pos (by decide)]
          simp -dsimp only [go_sem, g0, g4, f2, hB, hz, hg3, hgn, hi, kc, n1]
        · by_cases n2 : 64 < s.n
          · have ho : oneE s = 3 := by unfold oneE; rw [if_pos (.inr n2)]
            rw [ho, if_pos (by decide)] at hF
            rw [hF, if_pos (by decide)]
            simp -dsimp only [go_sem, g0, g4, f2, hB, hz, hg3, hgn, hi, kc, n1, n2]
          · have hd0 : s.s.den ≠ 0 := s.s.den_nz
            by_cases hd : s.s.den ≤ 64
            · have hw : whole s.s = (s.s.den : Int) := by unfold whole; rw [if_pos hd]
              rw [hw] at kw
              have w0 : ((s.s.den : Int) = 0) = False := eq_false (by omega)
              have e : Int.tmod s.n (s.s.den : Int) = s.n % (s.s.den : Int) := Int.tmod_eq_emod_of_nonneg (by omega)
              by_cases hr : s.n % (s.s.den : Int) = 0
              · have ho : oneE s = 0 := by
                  unfold oneE
                  have := Int.le_of_dvd (by omega) (Int.dvd_of_emod_eq_zero hr)
                  rw [if_neg (by omega), if_neg (by omega)]
                have r0 : (s.n % (s.s.den : Int) = 0) = True := eq_true hr
                rw [ho, if_neg (by decide)] at hF
                have e8 : IntKind.i64.wrap (lenSum ((f.map sdOf).take i) + s.n) = lenSum ((f.map sdOf).take (i + 1)) := by rw [w64 (by omega) (by omega), hst]
                simp -dsimp only [go_sem, g0, g3, g4, f2, hB, hz, hg3, hgn, hi, kc, n1, n2, kw, w0, e, r0, e7, e8]
                refine ⟨by omega, next (i + 1) (by show f.length - (i + 1) < f.length - i; omega) ⟨hi, rfl, hF, by omega, by omega, g0, rfl, rfl⟩⟩
              · have ho : oneE s = 1 := by
                  unfold oneE
                  rw [if_neg (by omega), if_pos (.inr hr)]
                have r0 : (s.n % (s.s.den : Int) = 0) = False := eq_false hr
                rw [ho, if_pos (by decide)] at hF
                rw [hF, if_pos (by decide)]
                simp -dsimp only [go_sem, g0, g3, g4, f2, hB, hz, hg3, hgn, hi, kc, n1, n2, kw, w0, e, r0]
                omega
            · have hw : whole s.s = 0 := by unfold whole; rw [if_neg hd]
              rw [hw] at kw
              have ho : oneE s = 1 := by
                unfold oneE
                rw [if_neg (by omega), if_pos (.inl (by omega))]
              rw [ho, if_pos (by decide)] at hF
              rw [hF, if_pos (by decide)]
              simp -dsimp only [go_sem, g0, g3, g4, f2, hB, hz, hg3, hgn, hi, kc, n1, n2, kw]
      · have hck : ckR f[i] = 1 := by unfold ckR; rw [if_neg hv]
        rw [hck] at kc
        rw [oneX_bad hv, if_pos (by decide)] at hF
        rw [hF, if_pos (by decide)]
        simp -dsimp only [go_sem, g0, g4, f2, hB, hz, hg3, hi, kc]
    · have f2 : ((i : Int) < ((f.length : Nat) : Int)) = False := eq_false (by omega)
      have hi' : i = f.length := by omega
      rw [hi', List.drop_length] at hF
      rw [hi', List.take_of_length_le (by rw [List.length_map]; omega)] at g3
      simp -dsimp only [go_sem, g0, g3, g4, f2]
      exact ⟨hF, rfl, g0, g3⟩
  · rintro σ H' ⟨hF0, rfl, g0, g3⟩
    have hz := firstX_zero hF0
    have hgs := hs.sides hz
    have hsm := sides_small2 hf hz
    rw [if_neg (fun h => h hF0)]
    have hlen : (f.map sdOf).length = f.length := List.length_map _
    have hfz : oneFirst (f.map sdOf) = 0 := by
      have : ∀ l : List Sd, (∀ x ∈ l, oneE x = 0) → oneFirst l = 0 := by
        intro l
        induction l with
        | nil => intro _; rfl
        | cons x r ih =>
          intro h
          unfold oneFirst
          rw [if_neg (by rw [h x (by simp)]; decide)]
          exact ih (fun y hy => h y (List.mem_cons_of_mem _ hy))
      exact this _ (fun x hx => (hsm x hx).2.1)
    unfold ckS
    rw [if_neg (by omega), if_neg (fun h => h hfz)]
    generalize hgg : f.map sdOf = g at *
    rw [← hlen] at g0
    simp -dsimp only [go_sem]
    refine r_loop (m := fun i => g.length - i) (I := fun i σ H2 => H2 = H' ∧ (∀ j (h : j + 1 < g.length), j < i → g[j].s < g[j + 1].s) ∧ (i = 0 ∨ i < g.length) ∧ σ 0 = .slice a g.length g.length ∧ σ 3 = .int .i64 (lenSum g) ∧ σ 5 = .int .i64 ((i + 1 : Nat) : Int)) 0 ⟨rfl, fun j _ h => by omega, .inl rfl, g0, g3, rfl⟩ ?_
    clear g0 g3
    rintro i σ H2 ⟨rfl, hA, hii, g0, g3, g5⟩
    by_cases hi : i + 1 < g.length
    · have f2 : (((i + 1 : Nat) : Int) < ((g.length : Nat) : Int)) = True := eq_true (by omega)
      have hi0 : i < g.length := by omega
      obtain ⟨b, o, B, rfl, hB, hz1, hg⟩ := hgs.sd i hi0
      obtain ⟨b2, o2, B2, heq, hB2, hz2, hg2⟩ := hgs.sd (i + 1) hi
      cases heq
      rw [hB] at hB2
      cases hB2
      have e1 : IntKind.i64.wrap (((i + 1 : Nat) : Int) - 1) = (i : Int) := by rw [w64 (by omega) (by omega)]; omega
      have e7 : IntKind.i64.wrap (((i + 1 : Nat) : Int) + 1) = ((i + 1 + 1 : Nat) : Int) := by rw [w64 (by omega) (by omega)]; omega
      have m1 := hsm _ (List.getElem_mem hi0)
      have m2 := hsm _ (List.getElem_mem hi)
      have n2 := bl_of_small m1.1.2
      have n4 := bl_of_small m2.1.2
      have m3 := m1.1.1
      have m4 := m2.1.1
      have hc := fun lk H' => r3_Compare lk H' g[i].s g[i + 1].s (by omega) (by omega) (by omega) (by omega)
      have hg3 := isub3 hg
      have hg4 := isub3 hg2
      have hil : i < g.length := hi0
      by_cases hlt : g[i].s < g[i + 1].s
      · have f3 : (0 ≤ rcmp g[i].s g[i + 1].s) = False := by rw [rcmp_ge]; exact eq_false (fun h => h hlt)
        simp -dsimp only [go_sem, g0, g3, g5, f2, e1, e7, hB, hz1, hg3, hg4, hi, hil, hc, f3]
        refine next (i + 1) (by show g.length - (i + 1) < g.length - i; omega) ⟨rfl, fun j h hj => ?_, .inr hi, g0, g3, rfl⟩
        by_cases hji : j = i
        · subst hji; exact hlt
        · exact hA j h (by omega)
      · have f3 : (0 ≤ rcmp g[i].s g[i + 1].s) = True := by rw [rcmp_ge]; exact eq_true hlt
        rw [if_pos (fun h => hlt (h i hi))]
        simp -dsimp only [go_sem, g0, g3, g5, f2, e1, e7, hB, hz1, hg3, hg4, hi, hil, hc, f3]
    · have f2 : (((i + 1 : Nat) : Int) < ((g.length : Nat) : Int)) = False := eq_false (by omega)
      have hasc : asc g := fun j h => hA j h (by omega)
      rw [if_neg (fun h => h hasc)]
      by_cases h4 : 64 < lenSum g
      · have f4 : (64 < lenSum g) = True := eq_true h4
        rw [if_pos h4]
        simp -dsimp only [go_sem, g0, g3, g5, f2, f4]
      · have f4 : (64 < lenSum g) = False := eq_false h4
        rw [if_neg h4]
        simp -dsimp only [go_sem, g0, g3, g5, f2, f4]
end Gx
end
section
set_option autoImplicit false
namespace Gx
open Go Go.Proofs
set_option maxRecDepth 10000
theorem r13_Length (lk : Nat) (H : Heap) (a : Option Addr) (f : List Sd) (hl : f.length ≤ 64) (hp : ∀ x ∈ f, 0 < x.n) (h64 : lenSum f ≤ 64) (hs : SL H a f) : gcall Tryz.prog md lk 71 [.slice a f.length f.length] H = some (.int .i64 (lenSum f), H) := by
  refine gcall_val rfl Tryz.func71 rfl rfl ?_
  simp -dsimp only [go_sem]
  refine r_loop (m := fun i => f.length - i) (I := fun i σ H' => i ≤ f.length ∧ H' = H ∧ σ 0 = .slice a f.length f.length ∧ σ 3 = .int .i64 (lenSum (f.take i)) ∧ σ 4 = .int .i64 (i : Int)) 0 ⟨Nat.zero_le _, rfl, rfl, by simp [lenSum, go_sem], rfl⟩ ?_
  rintro i σ H' ⟨h1, rfl, g0, g3, g4⟩
  by_cases hi : i < f.length
  · have f2 : ((i : Int) < ((f.length : Nat) : Int)) = True := eq_true (by omega)
    obtain ⟨b, o, B, rfl, hB, hz, hg⟩ := hs.sd i hi
    have hgn : B.c[o + i * 4 + 3]? = some (.int .i64 f[i].n) := isub_get hg 3 (by omega)
    have e7 : IntKind.i64.wrap ((i : Int) + 1) = ((i + 1 : Nat) : Int) := by rw [w64 (by omega) (by omega)]; omega
    have hst := lenSum_take f i hi
    have hb := lenSum_bounds f hp i (by omega)
    have hb2 := lenSum_bounds f hp (i + 1) (by omega)
    have e8 : IntKind.i64.wrap (lenSum (f.take i) + f[i].n) = lenSum (f.take (i + 1)) := by rw [w64 (by omega) (by omega), hst]
    simp -dsimp only [go_sem, g0, g3, g4, f2, hB, hz, hgn, hi, e7, e8]
    exact next (i + 1) (by show f.length - (i + 1) < f.length - i; omega) ⟨hi, rfl, g0, rfl, rfl⟩
  · have f2 : ((i : Int) < ((f.length : Nat) : Int)) = False := eq_false (by omega)
    have hi' : i = f.length := by omega
    rw [hi', List.take_length] at g3
    simp -dsimp only [go_sem, g0, g3, g4, f2]
theorem partD_topn (d : Nat) (m : List Bool) (u n : Nat) (hm : m.length = 65) (hn : n ≤ 65) (h : n ≤ u + d) : (partD d m u).take n = m.take n := by
  apply List.ext_getElem
  · rw [List.length_take, List.length_take, partD_len, hm]
  · intro j h1 h2
    rw [List.length_take, partD_len] at h1
    rw [List.getElem_take, List.getElem_take, partD_get _ _ _ _ (by omega), decide_eq_false (by omega), Bool.false_and, Bool.or_false]
    simp [List.getD, List.getElem?_eq_getElem (show j < m.length by omega)]
/-- No degree lies above M. -/
def Upto (m : List Bool) (M : Nat) : Prop := ∀ j, m.getD j false = true → j ≤ M
theorem addD_upto {d : Nat} {m : List Bool} {M : Nat} (h : Upto m M) : Upto (addD d m) (M + d) := by
  intro j hj
  unfold addD partD at hj
  by_cases hl : j < 65
  · simp only [List.getD, List.getElem?_map, List.getElem?_range hl, Option.map_some, Option.getD_some, Bool.or_eq_true, Bool.and_eq_true, decide_eq_true_eq] at hj
    rcases hj with hj | ⟨h1, h2⟩
    · have := h j hj; omega
    · have := h (j - d) h2; omega
  · have : (((List.range 65).map fun j => m.getD j false || (decide (0 + d ≤ j) && m.getD (j - d) false)).getD j false) = false := by
      simp [List.getD, hl]
    rw [this] at hj; cases hj
theorem addK_upto {d : Nat} {m : List Bool} {M : Nat} (h : Upto m M) : ∀ k, Upto (addK d k m) (M + k * d)
  | 0 => by simpa [addK] using h
  | k + 1 => by
    have := addD_upto (d := d) (addK_upto (d := d) h k)
    rw [Nat.add_mul, Nat.one_mul, ← Nat.add_assoc]
    exact this
theorem mayOf_upto (f : List Sd) (hp : ∀ x ∈ f, 0 < x.n) : Upto (mayOf f) (lenSum f).toNat := by
  have : ∀ n, n ≤ f.length → Upto (mayOf (f.take n)) (lenSum (f.take n)).toNat := by
    intro n
    induction n with
    | zero =>
      intro _ j hj
      cases j with
      | zero => exact Nat.zero_le _
      | succ j =>
        simp only [List.take_zero, mayOf, List.foldl_nil, may0, List.getD_cons_succ] at hj
        have : (List.replicate 64 false).getD j false = false := by
          simp only [List.getD, List.getElem?_replicate]
          split <;> rfl
        rw [this] at hj; cases hj
    | succ n ih =>
      intro hn
      have h1 := ih (by omega)
      have hb := lenSum_bounds f hp n (by omega)
      have hx := hp _ (List.getElem_mem (show n < f.length by omega))
      rw [mayOf_take f n (by omega), lenSum_take f n (by omega)]
      intro j hj
      have := addK_upto h1 _ j hj
      have hdv : ((f[n].n / (f[n].s.den : Int)).toNat : Int) * (f[n].s.den : Int) ≤ f[n].n := by
        rw [Int.toNat_of_nonneg (Int.ediv_nonneg (by omega) (by omega))]
        exact Int.ediv_mul_le _ (by have := f[n].s.den_nz; omega)
      have : ((f[n].n / (f[n].s.den : Int)).toNat * f[n].s.den : Nat) ≤ f[n].n.toNat := by
        have h2 : (((f[n].n / (f[n].s.den : Int)).toNat * f[n].s.den : Nat) : Int) ≤ f[n].n := by rw [Int.natCast_mul]; exact hdv
        omega
      omega
  have := this f.length (Nat.le_refl _)
  rwa [List.take_length] at this
theorem degs_upto (f : List Sd) (hp : ∀ x ∈ f, 0 < x.n) (n : Nat) (hn : n ≤ 65) (h : lenSum f < (n : Int)) : degs f = degsTo (mayOf f) n := by
  have hu := mayOf_upto f hp
  have h0 := (lenSum_nonneg f hp).1
  unfold degs
  have : ∀ k, n + k ≤ 65 → degsTo (mayOf f) (n + k) = degsTo (mayOf f) n := by
    intro k
    induction k with
    | zero => intro _; rfl
    | succ k ih =>
      intro hk
      rw [← Nat.add_assoc, degsTo_succ, if_neg, ih (by omega)]
      intro hc
      have := hu _ hc
      omega
  have := this (65 - n) (by omega)
  rwa [show n + (65 - n) = 65 by omega] at this
theorem whole_den {q : Rat} (h : q.den ≤ 64) : whole q = (q.den : Int) := by unfold whole; rw [if_pos h]
theorem r13_Degrees (lk : Nat) (H : Heap) (a : Option Addr) (f : List Sd) (hc : ckS f = 0) (hf : ∀ x ∈ f, SmS x) (hs : SL H a f) : gcall Tryz.prog md lk 70 [.slice a f.length f.length] H = some (.slice (mkA H (degs f)) (degs f).length (degs f).length, H ++ mkN (degs f)) := by
  refine gcall_own rfl Tryz.func70 rfl ?_
  obtain ⟨hl64, hp, hs64, _⟩ := ckS_ok hc
  obtain ⟨_, hone⟩ := ckS_one hc
  have h0 := (lenSum_nonneg f hp).1
  have kL := fun lk => r13_Length lk H a f hl64 hp hs64 hs
  obtain ⟨n, hn⟩ : ∃ n : Nat, lenSum f + 1 = (n : Int) := ⟨(lenSum f + 1).toNat, by omega⟩
  have hn1 : 1 ≤ n := by omega
  have hn65 : n ≤ 65 := by omega
  have e0 : IntKind.i64.wrap (lenSum f + 1) = (n : Int) := by rw [w64 (by omega) (by omega)]; exact hn
  rw [degs_upto f hp n hn65 (by omega)]
  have hrep : ∀ k, reps [.bool false] k = cells (List.replicate k false) := by
    intro k
    induction k with
    | zero => rfl
    | succ k ih => rw [reps, ih, List.replicate_succ, cells_cons]; rfl
  have hfirst : iput (cells (List.replicate n false)) 0 [.bool true] = cells (may0.take n) := by
    obtain ⟨k, rfl⟩ : ∃ k, n = k + 1 := ⟨n - 1, by omega⟩
    rw [bool_put _ 0 true (by simp)]
    congr 1
    have hk : k ≤ 64 := by omega
    show (List.replicate (k + 1) false).set 0 true = (true :: List.replicate 64 false).take (k + 1)
    rw [List.replicate_succ, List.set_cons_zero, List.take_succ_cons, List.take_replicate, Nat.min_eq_left hk]
  have f0 : (0 ≤ (n : Int)) = True := eq_true (by omega)
  have f01 : (0 < (n : Int)) = True := eq_true (by omega)
  have f02 : (0 < n) = True := eq_true (by omega)
  have c1 : ((1 : Int) * (n : Int) ≤ 281474976710656) = True := eq_true (by omega)
  have c2 : ((n : Int) < 4611686018427387904) = True := eq_true (by omega)
  have hcl : (cells (List.replicate n false)).length = n := by rw [cells_len, List.length_replicate]; show n * 1 = n; omega
  have hmk : ∀ H1 : Heap, imakeSlice Tryz.prog H1 177 (.int .i64 (n : Int)) (.int .i64 (n : Int)) = some (.slice (some ⟨H1.length, 0, none⟩) n n, H1 ++ [⟨cells (List.replicate n false), 1, false⟩]) := by
    intro H1
    have t1 : telem Tryz.prog 177 = some 4 := by kernel_rfl
    have t2 : tsz Tryz.prog 4 = some 1 := by kernel_rfl
    have t3 : tbytes Tryz.prog 4 = some 1 := by kernel_rfl
    have t4 : tzero Tryz.prog 4 = some [.bool false] := by kernel_rfl
    unfold imakeSlice
    simp only [t1, t2, t3, t4]
    rw [if_pos ⟨by decide, rfl, by omega, Int.le_refl _, by omega, by omega⟩, Int.toNat_natCast, hrep]
  simp -dsimp only [go_sem, kL, e0, hmk, f01, f02, hfirst, hcl]
  refine r_join_blk (fun σ H' => Ext H H' ∧ ilive H' H.length = some (lblk ((mayOf f).take n)) ∧ σ 3 = .slice (some ⟨H.length, 0, none⟩) n n) ?_ ?_
  · refine r_loop (m := fun i => f.length - i) (I := fun i σ H' => i ≤ f.length ∧ Ext H H' ∧ ilive H' H.length = some (lblk ((mayOf (f.take i)).take n)) ∧ σ 0 = .slice a f.length f.length ∧ σ 3 = .slice (some ⟨H.length, 0, none⟩) n n ∧ σ 4 = .int .i64 (i : Int)) 0 ⟨Nat.zero_le _, Ext.app _ _, ?_, rfl, rfl, rfl⟩ ?_
    · simp -dsimp only [go_sem]; rfl
    rintro i σ H' ⟨h1, hE, hM, g0, g3, g4⟩
    by_cases hi : i < f.length
    · have f2 : ((i : Int) < ((f.length : Nat) : Int)) = True := eq_true (by omega)
      obtain ⟨b, o, B, rfl, hB, hz, hg⟩ := hs.sd i hi
      have hB' := hE.live hB
      have hg3 := isub3 hg
      have hgn : B.c[o + i * 4 + 3]? = some (.int .i64 f[i].n) := isub_get hg 3 (by omega)
      have e7 : IntKind.i64.wrap ((i : Int) + 1) = ((i + 1 : Nat) : Int) := by rw [w64 (by omega) (by omega)]; omega
      obtain ⟨m1, m2⟩ := hf _ (List.getElem_mem hi)
      have n2 := bl_of_small m2
      obtain ⟨d1, d2, d3⟩ := oneE_den (hone _ (List.getElem_mem hi))
      obtain ⟨_, q2⟩ := oneE_pos (hone _ (List.getElem_mem hi))
      have kw : ∀ lk H', gcall Tryz.prog md lk 106 [vR f[i].s] H' = some (.int .i64 (f[i].s.den : Int), H') := fun lk H' => by
        have := r13_whole lk H' f[i].s (by omega)
        rw [whole_den d2] at this
        exact this
      have htk := mayOf_take f i hi
      have hml := mayOf_len (f.take i)
      have f5 : (((f[i].s.den : Nat) : Int) = 0) = False := eq_false (by omega)
      have eq : IntKind.i64.wrap (Int.tdiv f[i].n ((f[i].s.den : Nat) : Int)) = (((f[i].n / (f[i].s.den : Int)).toNat : Nat) : Int) := by
        rw [Int.tdiv_eq_ediv_of_nonneg (by omega)]
        have h1 : 0 ≤ f[i].n / (f[i].s.den : Int) := Int.ediv_nonneg (by omega) (by omega)
        have h2 : f[i].n / (f[i].s.den : Int) ≤ f[i].n := Int.ediv_le_self _ (by omega)
        rw [w64 (by omega) (by omega)]; omega
      have hkk64 : (f[i].n / (f[i].s.den : Int)).toNat ≤ 64 := by
        have h2 : f[i].n / (f[i].s.den : Int) ≤ f[i].n := Int.ediv_le_self _ (by omega)
        omega
      simp -dsimp only [go_sem, g0, g4, f2, hB', hz, hg3, hi, kw]
      generalize hkk : (f[i].n / (f[i].s.den : Int)).toNat = kk at *
      generalize mayOf (f.take i) = m0 at *
      generalize hdd : f[i].s.den = d at *
      generalize f[i].n = xn at *
      refine r_loop (m := fun k => kk - k) (I := fun k σ H2 => k ≤ kk ∧ Ext H H2 ∧ ilive H2 H.length = some (lblk ((addK d k m0).take n)) ∧ σ 0 = .slice (some ⟨b, o, none⟩) f.length f.length ∧ σ 3 = .slice (some ⟨H.length, 0, none⟩) n n ∧ σ 4 = .int .i64 (i : Int) ∧ σ 5 = .int .i64 (d : Int) ∧ σ 6 = .int .i64 (k : Int)) 0 ⟨Nat.zero_le _, hE, hM, g0, g3, g4, rfl, rfl⟩ ?_
      clear g0 g3 g4 hM
      rintro k σ H2 ⟨k1', hE2, hM2, g0, g3, g4, g5, g6⟩
      have hB2 := hE2.live hB
      by_cases hk : k < kk
      · have f3 : ((k : Int) < (kk : Int)) = True := eq_true (by omega)
        have e9 : IntKind.i64.wrap ((n : Int) - 1) = (n : Int) - 1 := w64 (by omega) (by omega)
        have hml2 := addK_len d k m0 hml
        simp -dsimp only [go_sem, g0, g3, g4, g5, g6, f2, f3, hB2, hz, hgn, hi, f5, eq, e9]
        refine ⟨by omega, ?_⟩
        generalize hmm : addK d k m0 = m at *
        refine r_loop (m := id) (I := fun v σ H4 => v ≤ n ∧ Ext H H4 ∧ ilive H4 H.length = some (lblk ((partD d m (v - d)).take n)) ∧ σ 0 = .slice (some ⟨b, o, none⟩) f.length f.length ∧ σ 3 = .slice (some ⟨H.length, 0, none⟩) n n ∧ σ 4 = .int .i64 (i : Int) ∧ σ 5 = .int .i64 (d : Int) ∧ σ 6 = .int .i64 (k : Int) ∧ σ 7 = .int .i64 ((v : Int) - 1)) n ⟨Nat.le_refl _, hE2, by rw [partD_topn d m (n - d) n hml2 hn65 (by omega)]; exact hM2, g0, g3, g4, g5, g6, rfl⟩ ?_
        clear g0 g3 g4 g5 g6 hM2
        rintro v σ H4 ⟨v1, hE4, hM4, g0, g3, g4, g5, g6, g7⟩
        by_cases hv : d + 1 ≤ v
        · obtain ⟨u, rfl⟩ : ∃ u, v = u + 1 + d := ⟨v - 1 - d, by omega⟩
          have e11 : ((u + 1 + d : Nat) : Int) - 1 = ((u + d : Nat) : Int) := by omega
          rw [e11] at g7
          rw [show u + 1 + d - d = u + 1 by omega] at hM4
          have f6 : ((d : Int) ≤ ((u + d : Nat) : Int)) = True := eq_true (by omega)
          have hlen := partD_len d m (u + 1)
          have l1 : u + d < (partD d m (u + 1)).length := by omega
          have l2 : u < (partD d m (u + 1)).length := by omega
          have hst := partD_step d m u d1 (by omega) l1 l2
          generalize partD d m (u + 1) = pm at *
          have t1 : u + d < (pm.take n).length := by rw [List.length_take]; omega
          have t2 : u < (pm.take n).length := by rw [List.length_take]; omega
          have b1 := bool_get _ _ t1
          have b2 := bool_get _ _ t2
          have pp := fun b => bool_put _ _ b t1
          rw [List.getElem_take] at b1 b2
          have hst2 : (partD d m u).take n = (pm.take n).set (u + d) (pm[u + d] || pm[u]) := by rw [hst, List.take_set]
          have hlt := ilive_lt hM4
          have e12 : IntKind.i64.wrap (((u + d : Nat) : Int) - (d : Int)) = (u : Int) := by rw [w64 (by omega) (by omega)]; omega
          have e13 : IntKind.i64.wrap (((u + d : Nat) : Int) - 1) = ((u + d : Nat) : Int) - 1 := w64 (by omega) (by omega)
          have f9 : u + d < n := by omega
          have f8 : u < n := by omega
          simp only [lblk] at hM4
          have hcl : (cells (pm.take n)).length = n := by rw [cells_len, List.length_take]; show min n pm.length * 1 = n; omega
          have hE5 := hE4.set (Nat.le_refl H.length) (lblk ((pm.take n).set (u + d) (pm[u + d] || pm[u])))
          have hM5 : ilive (H4.set H.length (lblk ((pm.take n).set (u + d) (pm[u + d] || pm[u])))) H.length = some (lblk ((pm.take n).set (u + d) (pm[u + d] || pm[u]))) := ilive_set_self hlt rfl
          rw [← hst2] at hE5 hM5
          cases hb : pm[u + d] with
          | true =>
            rw [hb] at b1
            rw [hb, Bool.true_or] at hst2
            simp -dsimp only [go_sem, g3, g5, g7, f6, e12, e13, hM4, b1, f9, f8, pp, hcl, ← hst2]
            exact next (u + d) (by show u + d < u + 1 + d; omega) ⟨by omega, hE5, by rw [show u + d - d = u by omega]; exact hM5, g0, g3, g4, g5, g6, rfl⟩
          | false =>
            rw [hb] at b1
            rw [hb, Bool.false_or] at hst2
            simp -dsimp only [go_sem, g3, g5, g7, f6, e12, e13, hM4, b1, b2, f9, f8, pp, hcl, ← hst2]
            exact next (u + d) (by show u + d < u + 1 + d; omega) ⟨by omega, hE5, by rw [show u + d - d = u by omega]; exact hM5, g0, g3, g4, g5, g6, rfl⟩
        · have f6 : ((d : Int) ≤ (v : Int) - 1) = False := eq_false (by omega)
          rw [show v - d = 0 by omega] at hM4
          have e10 : IntKind.i64.wrap ((k : Int) + 1) = ((k + 1 : Nat) : Int) := by rw [w64 (by omega) (by omega)]; omega
          simp -dsimp only [go_sem, g5, g6, g7, f6, e10]
          exact next (k + 1) (by show kk - (k + 1) < kk - k; omega) ⟨hk, hE4, by unfold addK; rw [hmm]; exact hM4, g0, g3, g4, g5, rfl⟩
      · have f3 : ((k : Int) < (kk : Int)) = False := eq_false (by omega)
        have hkk2 : k = kk := by omega
        rw [hkk2, ← htk] at hM2
        simp -dsimp only [go_sem, g0, g3, g4, g5, g6, f2, f3, hB2, hz, hgn, hi, f5, eq, e7]
        exact ⟨by omega, next (i + 1) (by show f.length - (i + 1) < f.length - i; omega) ⟨hi, hE2, hM2, g0, g3, rfl⟩⟩
    · have f2 : ((i : Int) < ((f.length : Nat) : Int)) = False := eq_false (by omega)
      have hi' : i = f.length := by omega
      rw [hi', List.take_length] at hM
      simp -dsimp only [go_sem, g0, g4, f2]
      exact ⟨hE, hM, g3⟩
  · rintro σ H' ⟨hE, hM, g3⟩
    have hml := mayOf_len f
    generalize mayOf f = m at *
    have hcl : (cells (m.take n)).length = n := by rw [cells_len, List.length_take]; show min n m.length * 1 = n; omega
    simp -dsimp only [go_sem]
    refine r_loop (m := fun (s : Nat × Option Addr) => n - s.1) (I := fun s σ H2 => s.1 ≤ n ∧ Ext H H2 ∧ ilive H2 H.length = some (lblk (m.take n)) ∧ Own (H.length + 1) H2 s.2 (degsTo m s.1) ∧ (s.2 = none ↔ degsTo m s.1 = []) ∧ σ 3 = .slice (some ⟨H.length, 0, none⟩) n n ∧ σ 8 = .slice s.2 (degsTo m s.1).length (degsTo m s.1).length ∧ σ 9 = .int .i64 (s.1 : Int)) (0, none) ⟨Nat.zero_le _, hE, hM, Own.nil, by simp [degsTo], g3, rfl, rfl⟩ ?_
    rintro ⟨i, a2⟩ σ H2 ⟨i1, hE2, hM2, hO, hN, g3, g8, g9⟩
    simp only [] at i1 hO hN g8 g9
    by_cases hi : i < n
    · have f1' : (((i : Nat) : Int) < (n : Int)) = True := eq_true (by omega)
      have e7 : IntKind.i64.wrap ((i : Int) + 1) = ((i + 1 : Nat) : Int) := by rw [w64 (by omega) (by omega)]; omega
      have hil : i < m.length := by omega
      have hit : i < (m.take n).length := by rw [List.length_take]; omega
      have hb := bool_get (m.take n) i hit
      rw [List.getElem_take] at hb
      have hsucc := degsTo_succ m i
      have hgd : m.getD i false = m[i] := by simp [List.getD, hil]
      rw [hgd] at hsucc
      have hlen := degsTo_len m i
      have hM3 := hM2
      simp only [lblk] at hM3
      have hlo := ilive_lt hM2
      cases hmi : m[i] with
      | true =>
        rw [hmi] at hb
        rw [hmi, if_pos rfl] at hsucc
        have hap := fun t t2 => ap_own (P := Tryz.prog) (lk := H.length) (t := t) (t2 := t2) hO (Nat.le_succ _) rfl [.int .i64 (i : Int)] 1 rfl rfl
        have hO2 := own_ap (lo := H.length + 1) (H := H2) (a := a2) (l := degsTo m i) (⟨(i : Int)⟩ : MI) [⟨[.int .i64 (i : Int)], 1, false⟩] (by simp; omega)
        have hO0 := hO.low (Nat.le_succ H.length)
        have hE3 : Ext H (kill (H2 ++ [⟨[.int .i64 (i : Int)], 1, false⟩]) a2) := (hO0.more _).kill (hE2.more _)
        have hM4 : ilive (kill (H2 ++ [⟨[.int .i64 (i : Int)], 1, false⟩]) a2 ++ [⟨cells (degsTo m i) ++ [.int .i64 (i : Int)], 1, false⟩]) H.length = some (lblk (m.take n)) := by
          refine ilive_app (kill_other (ilive_app hM2) ?_)
          intro c o e hce
          have := ownLt hO c o e hce
          omega
        rw [← hsucc] at hO2
        simp -dsimp only [go_sem, g3, g8, g9, f1', hi, hM3, hb, e7, reps, hap]
        refine ⟨by omega, next (i + 1, some ⟨H2.length + 1, 0, none⟩) (by show n - (i + 1) < n - i; omega) ⟨hi, hE3.more _, hM4, hO2, by simp [hsucc], g3, ?_, rfl⟩⟩
        simp only [upd, hsucc, List.length_append]; rfl
      | false =>
        rw [hmi] at hb
        rw [hmi, if_neg (by decide)] at hsucc
        simp -dsimp only [go_sem, g3, g8, g9, f1', hi, hM3, hb, e7]
        refine next (i + 1, a2) (by show n - (i + 1) < n - i; omega) ⟨hi, hE2, hM2, ?_, ?_, g3, ?_, rfl⟩
        · simp only [hsucc]; exact hO
        · simp only [hsucc]; exact hN
        · simp only [hsucc]; exact g8
    · have hi' : i = n := by omega
      subst hi'
      have f1 : (((i : Nat) : Int) < (i : Int)) = False := by simp
      simp -dsimp only [go_sem, g3, g8, g9, f1]
      exact compV_mk (hO.low (Nat.le_succ H.length)) rfl hN (cells_kok (fun x => rfl) _)
end Gx
end
section
set_option autoImplicit false
namespace Gx
open Go Go.Proofs
set_option maxRecDepth 10000
theorem iput3 {c : List Value} {o : Nat} {w x y z : Value} (h : isub c o 4 = some [w, x, y, z]) (v : Value) : iput c (o + 3) [v] = iput c o [w, x, y, v] := by
  have h3 := isub3 h
  unfold isub at h3
  split at h3
  · injection h3 with h3
    unfold iput
    rw [List.take_add, h3]
    simp
  · cases h3
theorem sd_putn (l : List Sd) (i : Nat) (v : Int) (h : i < l.length) : iput (cells l) (i * 4 + 3) [.int .i64 v] = cells (l.set i ⟨l[i].s, v⟩) := by
  rw [iput3 (sd_isub l i h), ← sd_put l i ⟨l[i].s, v⟩ h]
/-- A side's length is added where the slope is the same. -/
def bump (x y : Sd) : Sd := if y.s = x.s then ⟨y.s, y.n + x.n⟩ else y
def updK (out : List Sd) (x : Sd) (k : Nat) : List Sd := (out.take k).map (bump x) ++ out.drop k
theorem updK_len (out : List Sd) (x : Sd) (k : Nat) : (updK out x k).length = out.length := by
  unfold updK; rw [List.length_append, List.length_map, List.length_take, List.length_drop]; omega
theorem updK_at (out : List Sd) (x : Sd) (k : Nat) (h : k < out.length) (h2 : k < (updK out x k).length) : (updK out x k)[k] = out[k] := by
  apply Option.some.inj
  rw [← List.getElem?_eq_getElem h2, ← List.getElem?_eq_getElem h]
  unfold updK
  rw [List.getElem?_append_right (by rw [List.length_map, List.length_take]; omega), List.length_map, List.length_take, Nat.min_eq_left (by omega), Nat.sub_self, List.getElem?_drop, Nat.add_zero]
theorem updK_succ (out : List Sd) (x : Sd) (k : Nat) (h : k < out.length) : updK out x (k + 1) = (updK out x k).set k (bump x out[k]) := by
  unfold updK
  rw [List.set_append_right _ _ (by rw [List.length_map, List.length_take]; omega)]
  rw [List.length_map, List.length_take, Nat.min_eq_left (by omega), Nat.sub_self, List.drop_eq_getElem_cons h, List.set_cons_zero, List.take_add_one, List.getElem?_eq_getElem h, Option.toList_some, List.map_append]
  simp
theorem any_succ (out : List Sd) (x : Sd) (k : Nat) (h : k < out.length) : ((out.take (k + 1)).any fun y => decide (y.s = x.s)) = (((out.take k).any fun y => decide (y.s = x.s)) || decide (out[k].s = x.s)) := by
  rw [List.take_add_one, List.getElem?_eq_getElem h, Option.toList_some, List.any_append]
  simp
theorem bump_s (x y : Sd) : (bump x y).s = y.s := by unfold bump; split <;> rfl
theorem map_bump_none {x : Sd} : ∀ {l : List Sd}, (∀ y ∈ l, y.s ≠ x.s) → l.map (bump x) = l
  | [], _ => rfl
  | y :: r, h => by
    rw [List.map_cons, map_bump_none (fun z hz => h z (List.mem_cons_of_mem _ hz))]
    unfold bump
    rw [if_neg (h y (by simp))]
theorem sumAt_bump {x : Sd} : ∀ {l : List Sd}, l.Pairwise (fun u v => u.s < v.s) → (l.any fun y => decide (y.s = x.s)) = true → ∀ r, sumAt (l.map (bump x)) r = sumAt l r + (if x.s = r then x.n else 0)
  | [], _, h, _ => by simp at h
  | y :: l, hp, h, r => by
    rw [List.pairwise_cons] at hp
    rw [List.map_cons, sumAt, sumAt, bump_s]
    by_cases hy : y.s = x.s
    · rw [map_bump_none (fun z hz e => by
        have := hp.1 z hz
        rw [e, ← hy] at this
        exact Rat.lt_irrefl this)]
      have hb : (bump x y).n = y.n + x.n := by unfold bump; rw [if_pos hy]
      rw [hb, hy]
      split <;> omega
    · have hb : bump x y = y := by unfold bump; rw [if_neg hy]
      rw [hb]
      rw [List.any_cons, decide_eq_false hy, Bool.false_or] at h
      rw [sumAt_bump hp.2 h r]
      omega
theorem lenSum_bump {x : Sd} : ∀ {l : List Sd}, l.Pairwise (fun u v => u.s < v.s) → (l.any fun y => decide (y.s = x.s)) = true → lenSum (l.map (bump x)) = lenSum l + x.n
  | [], _, h => by simp at h
  | y :: l, hp, h => by
    rw [List.pairwise_cons] at hp
    rw [List.map_cons, lenSum, lenSum]
    by_cases hy : y.s = x.s
    · rw [map_bump_none (fun z hz e => by
        have := hp.1 z hz
        rw [e, ← hy] at this
        exact Rat.lt_irrefl this)]
      have hb : (bump x y).n = y.n + x.n := by unfold bump; rw [if_pos hy]
      rw [hb]; omega
    · have hb : bump x y = y := by unfold bump; rw [if_neg hy]
      rw [hb]
      rw [List.any_cons, decide_eq_false hy, Bool.false_or] at h
      rw [lenSum_bump hp.2 h]
      omega
theorem swap_list (A B : List Sd) (x y : Sd) : ((A ++ y :: x :: B).set (A.length + 1) y).set A.length x = A ++ x :: y :: B := by
  induction A with
  | nil => rfl
  | cons z A ih => simp only [List.cons_append, List.length_cons, List.set_cons_succ, ih]
/-- What the reference keeps of the sides that it has seen. -/
structure OutOk (out seen : List Sd) : Prop where
  asc : out.Pairwise (fun u v => u.s < v.s)
  pos : ∀ y ∈ out, 0 < y.n
  sh : ∀ y ∈ out, ShS y
  sum : ∀ r, sumAt out r = sumAt seen r
  len : lenSum out = lenSum seen
  cnt : out.length ≤ seen.length
theorem OutOk.nil : OutOk [] [] := ⟨List.Pairwise.nil, fun y h => by simp at h, fun y h => by simp at h, fun r => rfl, rfl, Nat.le_refl _⟩
theorem OutOk.bump {out seen : List Sd} {x : Sd} (h : OutOk out seen) (hx : 0 < x.n) (ha : (out.any fun y => decide (y.s = x.s)) = true) : OutOk (out.map (bump x)) (seen ++ [x]) := by
  refine ⟨?_, fun y hy => ?_, fun y hy => ?_, fun r => ?_, ?_, ?_⟩
  · rw [List.pairwise_map]
    exact h.asc.imp (fun hab => by rw [bump_s, bump_s]; exact hab)
  · obtain ⟨z, hz, rfl⟩ := List.mem_map.1 hy
    have := h.pos z hz
    unfold Gx.bump
    split
    · show 0 < z.n + x.n; omega
    · exact this
  · obtain ⟨z, hz, rfl⟩ := List.mem_map.1 hy
    have := h.sh z hz
    unfold ShS at *
    rw [bump_s]; exact this
  · rw [sumAt_bump h.asc ha, sumAt_app, h.sum]
    simp [sumAt]
  · rw [lenSum_bump h.asc ha, lenSum_app, h.len]
    simp [lenSum]
  · rw [List.length_map, List.length_append]; have := h.cnt; omega
theorem OutOk.ins {A B seen : List Sd} {x : Sd} (h : OutOk (A ++ B) seen) (hx : 0 < x.n) (hsx : ShS x) (hn : ∀ y ∈ A ++ B, y.s ≠ x.s) (hB : ∀ y ∈ B, x.s < y.s) (hA : ∀ y ∈ A, y.s < x.s) : OutOk (A ++ x :: B) (seen ++ [x]) := by
  have hp := h.asc
  rw [List.pairwise_append] at hp
  have hmem : ∀ y, y ∈ A ++ x :: B → y ∈ A ++ B ∨ y = x := fun y hy => by
    rcases List.mem_append.1 hy with hy | hy
    · exact .inl (List.mem_append_left _ hy)
    · rcases List.mem_cons.1 hy with hy | hy
      · exact .inr hy
      · exact .inl (List.mem_append_right _ hy)
  refine ⟨?_, fun y hy => ?_, fun y hy => ?_, fun r => ?_, ?_, ?_⟩
  · rw [List.pairwise_append, List.pairwise_cons]
    refine ⟨hp.1, ⟨hB, hp.2.1⟩, fun u hu v hv => ?_⟩
    rcases List.mem_cons.1 hv with rfl | hv
    · exact hA u hu
    · exact hp.2.2 u hu v hv
  · rcases hmem y hy with hy | rfl
    · exact h.pos y hy
    · exact hx
  · rcases hmem y hy with hy | rfl
    · exact h.sh y hy
    · exact hsx
  · have := h.sum r
    rw [sumAt_app] at this
    rw [sumAt_app, sumAt_app, ← this]
    simp only [sumAt]; omega
  · have := h.len
    rw [lenSum_app] at this
    rw [lenSum_app, lenSum_app, ← this]
    simp only [lenSum]; omega
  · have := h.cnt
    simp only [List.length_append, List.length_cons, List.length_nil] at *
    omega
theorem r13_Sum (lk : Nat) (H : Heap) (a1 a2 : Option Addr) (l1 l2 : List Sd) (hs1 : SL H a1 l1) (hs2 : SL H a2 l2) (n1 : l1.length ≤ 64) (n2 : l2.length ≤ 64) (hpos : ∀ x ∈ l1 ++ l2, 0 < x.n) (hsh : ∀ x ∈ l1 ++ l2, ShS x) (hsum : lenSum (l1 ++ l2) ≤ 128) :
    ∃ out, OutOk out (l1 ++ l2) ∧ gcall Tryz.prog md lk 72 [.slice a1 l1.length l1.length, .slice a2 l2.length l2.length] H = some (.slice (mkA H out) out.length out.length, H ++ mkN out) := by
  have key := gcall_own_ex (P := Tryz.prog) (md := md) (lk := lk) (g := 72) (fn := Tryz.f72) (args := [.slice a1 l1.length l1.length, .slice a2 l2.length l2.length]) (H := H) rfl Tryz.func72 rfl
    (R := fun v N => ∃ out, OutOk out (l1 ++ l2) ∧ v = .slice (mkA H out) out.length out.length ∧ N = mkN out) ?_
  · obtain ⟨v, N, h1, out, h2, rfl, rfl⟩ := key
    exact ⟨out, h2, h1⟩
  obtain ⟨aa1, G1, ka1, hE1, hO1, _⟩ := ap_sides (Ext.refl H) (.inl ⟨rfl, rfl⟩) hs1 (Nat.le_refl H.length) (by simp only [List.length_nil]; omega)
  rw [List.nil_append] at hO1
  rw [List.length_nil, Nat.zero_add] at ka1
  obtain ⟨aa, G2, ka2, hE2, hO2, _⟩ := ap_sides hE1 hO1.p (hE1.sl hs2) (Nat.le_refl H.length) (by omega)
  rw [← List.length_append] at ka2
  simp -dsimp only [go_sem, ka1, ka2]
  have hn : (l1 ++ l2).length ≤ 128 := by rw [List.length_append]; omega
  generalize l1 ++ l2 = all at *
  refine r_loop (m := fun (t : Nat × Option Addr × List Sd) => all.length - t.1) (I := fun t σ H' => t.1 ≤ all.length ∧ Ext H H' ∧ Own H.length H' aa all ∧ Own H.length H' t.2.1 t.2.2 ∧ (t.2.1 = none ↔ t.2.2 = []) ∧ (∀ c o e c' o' e', aa = some ⟨c, o, e⟩ → t.2.1 = some ⟨c', o', e'⟩ → c' ≠ c) ∧ OutOk t.2.2 (all.take t.1) ∧ σ 5 = .slice aa all.length all.length ∧ σ 6 = .slice t.2.1 t.2.2.length t.2.2.length ∧ σ 7 = .int .i64 (t.1 : Int)) (0, none, []) ⟨Nat.zero_le _, hE2, hO2, Own.nil, ⟨fun _ => rfl, fun _ => rfl⟩, fun c o e c' o' e' _ h => (nomatch h), OutOk.nil, rfl, rfl, rfl⟩ ?_
  clear hE2 hO2 ka1 ka2 hO1 hE1
  rintro ⟨i, ao, out⟩ σ H' ⟨i1, hE, hOa, hOo, hN, hne, hok, g5, g6, g7⟩
  simp only [] at i1 hOo hN hne hok g6 g7
  by_cases hi : i < all.length
  · have c1 : ((i : Int) < ((all.length : Nat) : Int)) = True := eq_true (by omega)
    have hxp := hpos _ (List.getElem_mem hi)
    have hxs := hsh _ (List.getElem_mem hi)
    have hpa : ∀ x ∈ all, 0 < x.n := hpos
    have hb2 := lenSum_bounds all hpa (i + 1) (by omega)
    have hb1 := lenSum_bounds all hpa i (by omega)
    have hst := lenSum_take all i hi
    have et : all.take (i + 1) = all.take i ++ [all[i]] := by
      rw [List.take_add_one, List.getElem?_eq_getElem hi, Option.toList_some]
    have hcnt := hok.cnt
    rw [List.length_take, Nat.min_eq_left (by omega)] at hcnt
    have hlenle := (lenSum_nonneg out hok.pos).2.2
    have hoklen := hok.len
    obtain ⟨ba, oa, Ba, heq, hBa, hza, hga⟩ := hOa.sl.sd i hi
    subst heq
    have e7 : IntKind.i64.wrap ((i : Int) + 1) = ((i + 1 : Nat) : Int) := by rw [w64 (by omega) (by omega)]; omega
    simp -dsimp only [go_sem, g5, g6, g7, c1]
    obtain ⟨x, hx⟩ : ∃ x, x = all[i] := ⟨_, rfl⟩
    rw [← hx] at hxp hxs hst et hga
    have hga3 := isub3 hga
    have hgan : Ba.c[oa + i * 4 + 3]? = some (.int .i64 x.n) := isub_get hga 3 (by omega)
    refine r_loop_to 2 (J := fun σ H2 => Ext H H2 ∧ Own H.length H2 (some ⟨ba, oa, none⟩) all ∧ Own H.length H2 ao (out.map (bump x)) ∧ σ 5 = .slice (some ⟨ba, oa, none⟩) all.length all.length ∧ σ 6 = .slice ao out.length out.length ∧ σ 7 = .int .i64 (i : Int) ∧ σ 8 = .bool (out.any fun y => decide (y.s = x.s))) (m := fun k : Nat => out.length - k) (I := fun (k : Nat) σ H2 => k ≤ out.length ∧ Ext H H2 ∧ Own H.length H2 (some ⟨ba, oa, none⟩) all ∧ Own H.length H2 ao (updK out x k) ∧ σ 5 = .slice (some ⟨ba, oa, none⟩) all.length all.length ∧ σ 6 = .slice ao out.length out.length ∧ σ 7 = .int .i64 (i : Int) ∧ σ 8 = .bool ((out.take k).any fun y => decide (y.s = x.s)) ∧ σ 9 = .int .i64 (k : Int)) 0 ⟨Nat.zero_le _, hE, hOa, hOo, g5, g6, g7, rfl, rfl⟩ ?_ ?_
    · clear g5 g6 g7 hBa
      rintro k σ H2 ⟨k1, hE, hOa, hOo, g5, g6, g7, g8, g9⟩
      obtain ⟨ba', oa', Ba', heq, hBa, hza, hga'⟩ := hOa.sl.sd i hi
      cases heq
      have hBe : Ba'.c = Ba.c → True := fun _ => trivial
      rw [← hx] at hga'
      have hga3 := isub3 hga'
      have hgan : Ba'.c[oa + i * 4 + 3]? = some (.int .i64 x.n) := isub_get hga' 3 (by omega)
      by_cases hk : k < out.length
      · have c2 : ((k : Int) < ((out.length : Nat) : Int)) = True := eq_true (by omega)
        have e8 : IntKind.i64.wrap ((k : Int) + 1) = ((k + 1 : Nat) : Int) := by rw [w64 (by omega) (by omega)]; omega
        have hul := updK_len out x k
        have hk2 : k < (updK out x k).length := by omega
        obtain ⟨bo, hbo, hbo2, hBo⟩ : ∃ bo, ao = some ⟨bo, 0, none⟩ ∧ H.length ≤ bo ∧ ilive H2 bo = some (lblk (updK out x k)) := by
          rcases hOo with ⟨_, h⟩ | h
          · rw [h] at hk2; simp at hk2
          · exact h
        subst hbo
        have hBo2 : ilive H2 bo = some ⟨cells (updK out x k), 4, false⟩ := hBo
        have sk := sd_isub _ k hk2
        rw [updK_at out x k hk hk2] at sk
        have sk3 := isub3 sk
        have skn : (cells (updK out x k))[k * 4 + 3]? = some (.int .i64 out[k].n) := isub_get sk 3 (by omega)
        have hq : ibin Tryz.prog .eql 39 (.agg #[.bool (decide (out[k].s.num < 0)), .string (mkS (bytes out[k].s.num.natAbs)), .string (mkS (bytes out[k].s.den))]) (.agg #[.bool (decide (x.s.num < 0)), .string (mkS (bytes x.s.num.natAbs)), .string (mkS (bytes x.s.den))]) = some (.bool (decide (out[k].s = x.s))) := vR_eql out[k].s x.s
        have hany := any_succ out x k hk
        have hupd := updK_succ out x k hk
        by_cases he : out[k].s = x.s
        · have ce : (out[k].s = x.s) = True := eq_true he
          rw [decide_eq_true he, Bool.or_true] at hany
          have hyp := hok.pos _ (List.getElem_mem hk)
          have hyle := hlenle _ (List.getElem_mem hk)
          have e9 : IntKind.i64.wrap (out[k].n + x.n) = out[k].n + x.n := by rw [w64 (by omega) (by omega)]
          have hput := sd_putn (updK out x k) k (out[k].n + x.n) hk2
          rw [updK_at out x k hk hk2] at hput
          have hbv : (⟨out[k].s, out[k].n + x.n⟩ : Sd) = bump x out[k] := by unfold bump; rw [if_pos he]
          rw [hbv, ← hupd] at hput
          have hcl : (cells (updK out x k)).length = out.length * 4 := by rw [cells_len, hul]; rfl
          simp -dsimp only [go_sem, g5, g6, g7, g9, c2, hBo2, hBa, hza, sk3, skn, hga3, hgan, hk, hi, hq, ce, e8, e9, hput]
          refine ⟨⟨hbo2, by omega⟩, next (k + 1) (by show out.length - (k + 1) < out.length - k; omega) ⟨hk, hE.set hbo2 _, Own.set hOa (fun c o e h h' => by cases h; exact hne ba oa none bo 0 none rfl rfl h'.symm), .inr ⟨bo, rfl, hbo2, ilive_set_self (ilive_lt hBo) rfl⟩, g5, g6, g7, ?_, rfl⟩⟩
          rw [hany]; rfl
        · have ce : (out[k].s = x.s) = False := eq_false he
          rw [decide_eq_false he, Bool.or_false] at hany
          have hbv : bump x out[k] = out[k] := by unfold bump; rw [if_neg he]
          have hsame : updK out x (k + 1) = updK out x k := by
            rw [hupd, hbv]
            conv => lhs; rw [← updK_at out x k hk hk2]
            exact List.set_getElem_self hk2
          simp -dsimp only [go_sem, g5, g6, g7, g9, c2, hBo2, hBa, hza, sk3, hga3, hk, hi, hq, ce, e8]
          exact next (k + 1) (by show out.length - (k + 1) < out.length - k; omega) ⟨hk, hE, hOa, by rw [hsame]; exact hOo, g5, g6, g7, by rw [hany]; exact g8, rfl⟩
      · have c2 : ((k : Int) < ((out.length : Nat) : Int)) = False := eq_false (by omega)
        have hkk : k = out.length := by omega
        rw [hkk] at hOo g8
        rw [List.take_length] at g8
        have hfull : updK out x out.length = out.map (bump x) := by unfold updK; rw [List.take_length, List.drop_length, List.append_nil]
        rw [hfull] at hOo
        simp -dsimp only [go_sem, g6, g9, c2]
        exact mk ⟨hE, hOa, hOo, g5, g6, g7, g8⟩
    clear g5 g6 g7 hBa hE hOa hOo hga3 hgan hga
    rintro σ H2 ⟨hE, hOa, hOo, g5, g6, g7, g8⟩
    cases hany : out.any fun y => decide (y.s = x.s) with
    | true =>
      rw [hany] at g8
      have hok2 := hok.bump hxp hany
      rw [← et] at hok2
      simp -dsimp only [go_sem, g7, g8, e7]
      exact next (i + 1, ao, out.map (bump x)) (by show all.length - (i + 1) < all.length - i; omega) ⟨hi, hE, hOa, hOo, by simp only [List.map_eq_nil_iff]; exact hN, hne, hok2, g5, by simp only [List.length_map]; exact g6, rfl⟩
    | false =>
      rw [hany] at g8
      have hdiff : ∀ y ∈ out, y.s ≠ x.s := fun y hy e => by
        have := List.any_eq_false.1 hany y hy
        simp [e] at this
      rw [map_bump_none hdiff] at hOo
      obtain ⟨ba', oa', Ba', heq, hBa, hza, hga'⟩ := hOa.sl.sd i hi
      cases heq
      rw [← hx] at hga'
      have hap := fun t t2 => ap_own (P := Tryz.prog) (lk := H.length) (t := t) (t2 := t2) hOo (Nat.le_refl _) rfl [.bool (decide (x.s.num < 0)), .string (mkS (bytes x.s.num.natAbs)), .string (mkS (bytes x.s.den)), .int .i64 x.n] 4 rfl rfl
      have hOn := own_ap (lo := H.length) (H := H2) (a := ao) (l := out) x [⟨[.bool (decide (x.s.num < 0)), .string (mkS (bytes x.s.num.natAbs)), .string (mkS (bytes x.s.den)), .int .i64 x.n], 4, false⟩] (by have := hE.le; simp; omega)
      have hEn : Ext H (kill (H2 ++ [⟨[.bool (decide (x.s.num < 0)), .string (mkS (bytes x.s.num.natAbs)), .string (mkS (bytes x.s.den)), .int .i64 x.n], 4, false⟩]) ao) := (hOo.more _).kill (hE.more _)
      have hOan := ownThru hOa hne [⟨[.bool (decide (x.s.num < 0)), .string (mkS (bytes x.s.num.natAbs)), .string (mkS (bytes x.s.den)), .int .i64 x.n], 4, false⟩] [⟨cells out ++ [.bool (decide (x.s.num < 0)), .string (mkS (bytes x.s.num.natAbs)), .string (mkS (bytes x.s.den)), .int .i64 x.n], 4, false⟩]
      have hlt := ownLt hOa
      have henc : (Enc.enc x : List Value) = [.bool (decide (x.s.num < 0)), .string (mkS (bytes x.s.num.natAbs)), .string (mkS (bytes x.s.den)), .int .i64 x.n] := rfl
      rw [henc] at hOn
      have e3 : IntKind.i64.wrap (((out.length + 1 : Nat) : Int) - 1) = (out.length : Int) := by rw [w64 (by omega) (by omega)]; omega
      have hlo := hE.le
      have hEn2 := hEn.more [(⟨cells out ++ [.bool (decide (x.s.num < 0)), .string (mkS (bytes x.s.num.natAbs)), .string (mkS (bytes x.s.den)), .int .i64 x.n], 4, false⟩ : Blk)]
      simp -dsimp only [go_sem, g5, g6, g7, g8, hBa, hza, hga', hi, reps, hap, e3]
      refine ⟨by omega, ?_⟩
      generalize kill (H2 ++ [(⟨[.bool (decide (x.s.num < 0)), .string (mkS (bytes x.s.num.natAbs)), .string (mkS (bytes x.s.den)), .int .i64 x.n], 4, false⟩ : Blk)]) ao ++ [(⟨cells out ++ [.bool (decide (x.s.num < 0)), .string (mkS (bytes x.s.num.natAbs)), .string (mkS (bytes x.s.den)), .int .i64 x.n], 4, false⟩ : Blk)] = H3 at *
      have hsep : ba ≠ H2.length + 1 := by have := hlt ba oa none rfl; omega
      clear hap hOa hOo hE hBa hga' hEn
      refine r_loop_to 4 (J := fun σ H4 => ∃ A B : List Sd, out = A ++ B ∧ (∀ y ∈ B, x.s < y.s) ∧ (∀ y ∈ A, y.s < x.s) ∧ Ext H H4 ∧ Own H.length H4 (some ⟨ba, oa, none⟩) all ∧ Own H.length H4 (some ⟨H2.length + 1, 0, none⟩) (A ++ x :: B) ∧ σ 5 = .slice (some ⟨ba, oa, none⟩) all.length all.length ∧ σ 6 = .slice (some ⟨H2.length + 1, 0, none⟩) (out.length + 1) (out.length + 1) ∧ σ 7 = .int .i64 (i : Int)) (m := fun s : List Sd × List Sd => s.1.length) (I := fun (s : List Sd × List Sd) σ H4 => out = s.1 ++ s.2 ∧ (∀ y ∈ s.2, x.s < y.s) ∧ Ext H H4 ∧ Own H.length H4 (some ⟨ba, oa, none⟩) all ∧ Own H.length H4 (some ⟨H2.length + 1, 0, none⟩) (s.1 ++ x :: s.2) ∧ σ 5 = .slice (some ⟨ba, oa, none⟩) all.length all.length ∧ σ 6 = .slice (some ⟨H2.length + 1, 0, none⟩) (out.length + 1) (out.length + 1) ∧ σ 7 = .int .i64 (i : Int) ∧ σ 10 = .int .i64 (s.1.length : Int)) (out, []) ?_ ?_ ?_
      · exact ⟨(List.append_nil _).symm, fun y hy => by simp at hy, hEn2, hOan, hOn, g5, rfl, g7, rfl⟩
      · clear g5 g6 g7 g8
        rintro ⟨A, B⟩ σ H4 ⟨hAB, hB, hE, hOa, hOo, g5, g6, g7, g10⟩
        simp only [] at hAB hB hOo g10
        have hasc := hok.asc
        rw [hAB, List.pairwise_append] at hasc
        rcases List.eq_nil_or_concat A with hA0 | ⟨A', y, hA'⟩
        · subst hA0
          have c3 : (0 < ((([] : List Sd).length : Nat) : Int)) = False := eq_false (by simp)
          simp -dsimp only [go_sem, g10, c3]
          exact mk ⟨[], B, hAB, hB, fun y hy => by simp at hy, hE, hOa, hOo, g5, g6, g7⟩
        · rw [List.concat_eq_append] at hA'
          subst hA'
          have hl1 : (A' ++ [y]).length = A'.length + 1 := by simp
          have hol : out.length = A'.length + 1 + B.length := by rw [hAB]; simp; omega
          rw [hl1] at g10
          have c3 : (0 < ((A'.length + 1 : Nat) : Int)) = True := eq_true (by omega)
          have e4 : IntKind.i64.wrap (((A'.length + 1 : Nat) : Int) - 1) = (A'.length : Int) := by rw [w64 (by omega) (by omega)]; omega
          have hL : A' ++ [y] ++ x :: B = A' ++ y :: x :: B := by simp
          rw [hL] at hOo
          obtain ⟨hbo2, hBo⟩ : H.length ≤ H2.length + 1 ∧ ilive H4 (H2.length + 1) = some (lblk (A' ++ y :: x :: B)) := by
            rcases hOo with ⟨h, _⟩ | ⟨b, h1, h2, h3⟩
            · cases h
            · cases h1; exact ⟨h2, h3⟩
          have hBo2 : ilive H4 (H2.length + 1) = some ⟨cells (A' ++ y :: x :: B), 4, false⟩ := hBo
          have hLl : (A' ++ y :: x :: B).length = out.length + 1 := by rw [hol]; simp; omega
          have i1' : A'.length + 1 < (A' ++ y :: x :: B).length := by omega
          have i2' : A'.length < (A' ++ y :: x :: B).length := by omega
          have s1 := sd_isub _ _ i1'
          have s2 := sd_isub _ _ i2'
          have q1 : (A' ++ y :: x :: B)[A'.length + 1] = x := by simp
          have q2 : (A' ++ y :: x :: B)[A'.length] = y := by simp
          rw [q1] at s1
          rw [q2] at s2
          have s13 := isub3 s1
          have s23 := isub3 s2
          have hsy := hok.sh y (by rw [hAB]; simp)
          have hyd := hdiff y (by rw [hAB]; simp)
          have kc := fun lk H' => r3_Compare lk H' x.s y.s hxs.1 hsy.1 hxs.2 hsy.2
          have j1 : A'.length + 1 < out.length + 1 := by omega
          have j2 : A'.length < out.length + 1 := by omega
          by_cases hlt2 : x.s < y.s
          · have cl : (rcmp x.s y.s < 0) = True := eq_true ((rcmp_lt _ _).2 hlt2)
            have p1 := sd_put (A' ++ y :: x :: B) (A'.length + 1) y i1'
            have p2 := sd_put ((A' ++ y :: x :: B).set (A'.length + 1) y) A'.length x (by rw [List.length_set]; exact i2')
            rw [swap_list] at p2
            have hc1 : (cells (A' ++ y :: x :: B)).length = (out.length + 1) * 4 := by rw [cells_len, hLl]; rfl
            have hc2 : (cells ((A' ++ y :: x :: B).set (A'.length + 1) y)).length = (out.length + 1) * 4 := by rw [cells_len, List.length_set, hLl]; rfl
            have hset : ∀ c, ilive (H4.set (H2.length + 1) ⟨c, 4, false⟩) (H2.length + 1) = some ⟨c, 4, false⟩ := fun c => ilive_set_self (ilive_lt hBo) rfl
            simp -dsimp only [go_sem, g6, g10, c3, e4, hBo2, hset, s1, s2, s13, s23, j1, j2, kc, cl, p1, p2, List.set_set]
            refine ⟨⟨hbo2, by omega⟩, ⟨hbo2, by omega⟩, next (A', y :: B) (by show A'.length < (A' ++ [y]).length; rw [hl1]; omega) ⟨by rw [hAB]; simp, fun z hz => ?_, hE.set hbo2 _, Own.set hOa (fun c o e h h' => by cases h; exact hsep h'), .inr ⟨_, rfl, hbo2, ilive_set_self (ilive_lt hBo) rfl⟩, g5, g6, g7, rfl⟩⟩
            rcases List.mem_cons.1 hz with rfl | hz
            · exact hlt2
            · exact hB z hz
          · have cl : (rcmp x.s y.s < 0) = False := eq_false (fun h => hlt2 ((rcmp_lt _ _).1 h))
            simp -dsimp only [go_sem, g6, g10, c3, e4, hBo2, s13, s23, j1, j2, kc, cl]
            have hyx : y.s < x.s := Rat.not_le.1 (fun h => by
              have h2 := Rat.not_lt.1 hlt2
              exact hyd (Rat.le_antisymm h2 h))
            refine mk ⟨A' ++ [y], B, hAB, hB, fun z hz => ?_, hE, hOa, by rw [hL]; exact hOo, g5, g6, g7⟩
            rcases List.mem_append.1 hz with hz | hz
            · have hp := hasc.1
              rw [List.pairwise_append] at hp
              exact Std.lt_trans (hp.2.2 z hz y (by simp)) hyx
            · simp only [List.mem_singleton] at hz
              rw [hz]; exact hyx
      · clear g5 g6 g7 g8 hOn hEn2 hOan
        rintro σ H4 ⟨A, B, hAB, hB, hA, hE, hOa, hOo, g5, g6, g7⟩
        have hok2 := OutOk.ins (x := x) (by rw [← hAB]; exact hok) hxp hxs (fun y hy => hdiff y (by rw [hAB]; exact hy)) hB hA
        rw [← et] at hok2
        have hll : (A ++ x :: B).length = out.length + 1 := by rw [hAB]; simp; omega
        simp -dsimp only [go_sem, g7, e7]
        exact next (i + 1, some ⟨H2.length + 1, 0, none⟩, A ++ x :: B) (by show all.length - (i + 1) < all.length - i; omega) ⟨hi, hE, hOa, hOo, by simp, fun c o e c' o' e' h1 h2 => by cases h1; cases h2; exact fun h => hsep h.symm, hok2, g5, by simp only [hll]; exact g6, rfl⟩
  · have c1 : ((i : Int) < ((all.length : Nat) : Int)) = False := eq_false (by omega)
    have hil : i = all.length := by omega
    rw [hil, List.take_length] at hok
    have hc := compV_mk hOo rfl hN (cells_kok (fun x => rfl) _)
    simp -dsimp only [go_sem, g5, g6, g7, c1]
    exact ⟨_, _, hc, out, hok, rfl, rfl⟩
end Gx
end
section
set_option autoImplicit false
namespace Gx
open Go Go.Proofs
set_option maxRecDepth 10000
/-- Is a list of sides too long for the statements? -/
def longB (f : List RS) : Bool := (f.any fun x => decide (20 < x.abs.length) || decide (20 < x.den.length)) || decide (80 < f.length)
theorem longB_no {f : List RS} (h : longB f = false) : f.length ≤ 80 ∧ ∀ x ∈ f, ShR x := by
  unfold longB at h
  rw [Bool.or_eq_false_iff] at h
  obtain ⟨h1, h2⟩ := h
  have h2 := of_decide_eq_false h2
  refine ⟨by omega, fun x hx => ?_⟩
  have := List.any_eq_false.1 h1 x hx
  simp only [Bool.or_eq_true, decide_eq_true_eq, not_or] at this
  exact ⟨by omega, by omega⟩
theorem l13_long (lk : Nat) (H : Heap) (a : Option Addr) (f : List RS) (hl : f.length ≤ 9223372036854775807) (hs : SL H a f) : gcall Tryz.prog md lk 64 [.slice a f.length f.length] H = some (.bool (longB f), H) := by
  refine gcall_val rfl Tryz.func64 rfl rfl ?_
  simp -dsimp only [go_sem]
  refine r_loop (m := fun i => f.length - i) (I := fun i σ H' => i ≤ f.length ∧ H' = H ∧ (∀ j (h : j < f.length), j < i → ShR f[j]) ∧ σ 0 = .slice a f.length f.length ∧ σ 3 = .int .i64 (i : Int)) 0 ⟨Nat.zero_le _, rfl, fun j _ h => by omega, rfl, rfl⟩ ?_
  rintro i σ H' ⟨h1, rfl, hA, g0, g3⟩
  by_cases hi : i < f.length
  · have f2 : ((i : Int) < ((f.length : Nat) : Int)) = True := eq_true (by omega)
    obtain ⟨b, o, B, rfl, hB, hz, hg⟩ := hs.rs i hi
    have q1 : B.c[o + i * 4 + 1]? = some (.string (mkS f[i].abs)) := isub_get hg 1 (by omega)
    have q2 : B.c[o + i * 4 + 2]? = some (.string (mkS f[i].den)) := isub_get hg 2 (by omega)
    have e7 : IntKind.i64.wrap ((i : Int) + 1) = ((i + 1 : Nat) : Int) := by rw [w64 (by omega) (by omega)]; omega
    have hyes : 20 < f[i].abs.length ∨ 20 < f[i].den.length → longB f = true := fun h => by
      unfold longB
      have : (f.any fun x => decide (20 < x.abs.length) || decide (20 < x.den.length)) = true := List.any_eq_true.2 ⟨f[i], List.getElem_mem hi, by simpa using h⟩
      rw [this]; rfl
    by_cases l1 : 20 < f[i].abs.length
    · have c1 : (20 < ((f[i].abs.length : Nat) : Int)) = True := eq_true (by omega)
      rw [hyes (.inl l1)]
      simp -dsimp only [go_sem, g0, g3, f2, hB, hz, q1, hi, c1]
    · have c1 : (20 < ((f[i].abs.length : Nat) : Int)) = False := eq_false (by omega)
      by_cases l2 : 20 < f[i].den.length
      · have c2 : (20 < ((f[i].den.length : Nat) : Int)) = True := eq_true (by omega)
        rw [hyes (.inr l2)]
        simp -dsimp only [go_sem, g0, g3, f2, hB, hz, q1, q2, hi, c1, c2]
      · have c2 : (20 < ((f[i].den.length : Nat) : Int)) = False := eq_false (by omega)
        simp -dsimp only [go_sem, g0, g3, f2, hB, hz, q1, q2, hi, c1, c2, e7]
        refine next (i + 1) (by show f.length - (i + 1) < f.length - i; omega) ⟨hi, rfl, fun j h hj => ?_, g0, rfl⟩
        by_cases hji : j = i
        · subst hji; exact ⟨by omega, by omega⟩
        · exact hA j h (by omega)
  · have f2 : ((i : Int) < ((f.length : Nat) : Int)) = False := eq_false (by omega)
    have hno : longB f = decide (80 < f.length) := by
      unfold longB
      have : (f.any fun x => decide (20 < x.abs.length) || decide (20 < x.den.length)) = false := by
        rw [List.any_eq_false]
        intro x hx
        obtain ⟨j, hj, rfl⟩ := List.getElem_of_mem hx
        have := hA j hj (by omega)
        have h1 := this.1
        have h2 := this.2
        simp only [Bool.or_eq_true, decide_eq_true_eq, not_or]
        exact ⟨by omega, by omega⟩
      rw [this]; rfl
    rw [hno]
    simp -dsimp only [go_sem, g0, g3, f2]
    by_cases h80 : 80 < f.length
    · rw [decide_eq_true h80]
      have c3 : (80 < ((f.length : Nat) : Int)) = True := eq_true (by omega)
      simp [c3]
    · rw [decide_eq_false h80]
      have c3 : (80 < ((f.length : Nat) : Int)) = False := eq_false (by omega)
      simp [c3]
theorem p_DegE (lk : Nat) (H : Heap) (a : Option Addr) (n : Nat) (e : Int) (he : e ≠ 0) (kc : ∀ lk, gcall Tryz.prog md lk 67 [.slice a n n] H = some (.int .i64 e, H)) : gcall Tryz.prog md lk 66 [.slice a n n] H = some (.tuple #[.slice none 0 0, .int .i64 e], H) := by
  have e0 : H = H ++ [] := (List.append_nil H).symm
  conv => rhs; rw [e0]
  refine gcall_own rfl Tryz.func66 rfl ?_
  have f1 : (e = 0) = False := eq_false he
  simp -dsimp only [go_sem, kc, f1]
  exact compV_nilE
theorem p_SumE1 (lk : Nat) (H : Heap) (a1 a2 : Option Addr) (n1 n2 : Nat) (e : Int) (he : e ≠ 0) (kc : ∀ lk H', Ext H H' → gcall Tryz.prog md lk 67 [.slice a1 n1 n1] H' = some (.int .i64 e, H')) : gcall Tryz.prog md lk 65 [.slice a1 n1 n1, .slice a2 n2 n2] H = some (.tuple #[.slice none 0 0, .int .i64 e], H) := by
  have e0 : H = H ++ [] := (List.append_nil H).symm
  conv => rhs; rw [e0]
  refine gcall_own rfl Tryz.func65 rfl ?_
  have f1 : (e = 0) = False := eq_false he
  have c02 : ((0 : Int) < ((2 : Nat) : Int)) = True := eq_true (by decide)
  have kc' := kc H.length (H ++ [⟨[.slice a1 n1 n1, .slice a2 n2 n2], 1, false⟩]) (Ext.app _ _)
  simp -dsimp only [go_sem, reps]
  refine r_unroll ?_
  simp -dsimp only [go_sem, c02, kc', f1]
  exact compV_nilE
theorem p_SumE2 (lk : Nat) (H : Heap) (a1 a2 : Option Addr) (l1 : List Sd) (n2 : Nat) (hsa1 : SL H a1 l1) (m1 : ∀ x ∈ l1, SmS x) (k1 : ckS l1 = 0) (e : Int) (he : e ≠ 0) (kc : ∀ lk H', Ext H H' → gcall Tryz.prog md lk 67 [.slice a2 n2 n2] H' = some (.int .i64 e, H')) : gcall Tryz.prog md lk 65 [.slice a1 l1.length l1.length, .slice a2 n2 n2] H = some (.tuple #[.slice none 0 0, .int .i64 e], H) := by
  have e0 : H = H ++ [] := (List.append_nil H).symm
  conv => rhs; rw [e0]
  refine gcall_own rfl Tryz.func65 rfl ?_
  have f1 : (e = 0) = False := eq_false he
  obtain ⟨n1, hpl1, b1, _⟩ := ckS_ok k1
  have q1 := (lenSum_nonneg l1 hpl1).1
  have kc1 := fun lk H' (hE : Ext H H') => p_Check lk H' a1 l1 l1.length rfl (by omega) m1 (hE.sl hsa1)
  rw [k1] at kc1
  have c02 : ((0 : Int) < ((2 : Nat) : Int)) = True := eq_true (by decide)
  have c12 : ((1 : Int) < ((2 : Nat) : Int)) = True := eq_true (by decide)
  have c22 : ((2 : Int) < ((2 : Nat) : Int)) = False := eq_false (by decide)
  have e01 : IntKind.i64.wrap ((0 : Int) + 1) = 1 := by decide
  have e11 : IntKind.i64.wrap ((1 : Int) + 1) = 2 := by decide
  have kc1' := kc1 H.length (H ++ [⟨[.slice a1 l1.length l1.length, .slice a2 n2 n2], 1, false⟩]) (Ext.app _ _)
  simp -dsimp only [go_sem, reps]
  refine r_unroll ?_
  simp -dsimp only [go_sem, c02, kc1']
  refine r_loop_to 2 (J := fun σ H' => Ext H H' ∧ ilive H' H.length = some ⟨[.slice a1 l1.length l1.length, .slice a2 n2 n2], 1, false⟩ ∧ σ 0 = .slice a1 l1.length l1.length ∧ σ 1 = .slice a2 n2 n2 ∧ σ 19 = .slice (some ⟨H.length, 0, none⟩) 2 2 ∧ σ 20 = .int .i64 ((2 : Nat) : Int) ∧ σ 21 = .int .i64 0 ∧ σ 6 = .int .i64 (0 + lenSum l1)) (m := fun i : Nat => l1.length - i) (I := fun (i : Nat) σ H' => i ≤ l1.length ∧ Ext H H' ∧ ilive H' H.length = some ⟨[.slice a1 l1.length l1.length, .slice a2 n2 n2], 1, false⟩ ∧ σ 0 = .slice a1 l1.length l1.length ∧ σ 1 = .slice a2 n2 n2 ∧ σ 19 = .slice (some ⟨H.length, 0, none⟩) 2 2 ∧ σ 20 = .int .i64 ((2 : Nat) : Int) ∧ σ 21 = .int .i64 0 ∧ σ 6 = .int .i64 (0 + lenSum (l1.take i)) ∧ σ 30 = .slice a1 l1.length l1.length ∧ σ 31 = .int .i64 (l1.length : Int) ∧ σ 32 = .int .i64 (i : Int)) 0 ⟨Nat.zero_le _, Ext.app _ _, ilive_new _ _, rfl, rfl, rfl, rfl, rfl, by simp [lenSum, go_sem], rfl, rfl, rfl⟩ ?_ ?_
  · rintro i σ H' ⟨i1, hE, hc, g0, g1, g19, g20, g21, g6, g30, g31, g32⟩
    by_cases hi : i < l1.length
    · have c1 : ((i : Int) < (l1.length : Int)) = True := eq_true (by omega)
      obtain ⟨b, o, B, heq, hB, hz, hg⟩ := (hE.sl hsa1).sd i hi
      subst heq
      have hlo := hE.le
      have hst := lenSum_take l1 i hi
      have hb := lenSum_bounds l1 hpl1 i (by omega)
      have hb2 := lenSum_bounds l1 hpl1 (i + 1) (by omega)
      have e7 : IntKind.i64.wrap ((i : Int) + 1) = ((i + 1 : Nat) : Int) := by rw [w64 (by omega) (by omega)]; omega
      have e8 : IntKind.i64.wrap (0 + lenSum (l1.take i) + l1[i].n) = 0 + lenSum (l1.take (i + 1)) := by rw [w64 (by omega) (by omega), hst]; omega
      simp -dsimp only [go_sem, g6, g30, g31, g32, c1, hB, hz, hg, hi, e7, e8, hlo]
      exact next (i + 1) (by show l1.length - (i + 1) < l1.length - i; omega) ⟨hi, hE.more _, ilive_app hc, g0, g1, g19, g20, g21, rfl, g30, g31, rfl⟩
    · have c1 : ((i : Int) < (l1.length : Int)) = False := eq_false (by omega)
      have hil : i = l1.length := by omega
      rw [hil, List.take_length] at g6
      simp -dsimp only [go_sem, g31, g32, c1]
      exact mk ⟨hE, hc, g0, g1, g19, g20, g21, g6⟩
  rintro σ H1 ⟨hE1, hc1, g0, g1, g19, g20, g21, g6⟩
  simp -dsimp only [go_sem, g21, e01]
  refine r_unroll ?_
  have kc2' := kc H.length H1 hE1
  simp -dsimp only [go_sem, g19, g20, c12, hc1, kc2', f1]
  exact compV_nilE
theorem p_SumBig (lk : Nat) (H : Heap) (a1 a2 : Option Addr) (l1 l2 : List Sd) (hsa1 : SL H a1 l1) (hsa2 : SL H a2 l2) (m1 : ∀ x ∈ l1, SmS x) (m2 : ∀ x ∈ l2, SmS x) (k1 : ckS l1 = 0) (k2 : ckS l2 = 0) (hsum : 64 < lenSum l1 + lenSum l2) : gcall Tryz.prog md lk 65 [.slice a1 l1.length l1.length, .slice a2 l2.length l2.length] H = some (.tuple #[.slice none 0 0, .int .i64 4], H) := by
  have e0 : H = H ++ [] := (List.append_nil H).symm
  conv => rhs; rw [e0]
  refine gcall_own rfl Tryz.func65 rfl ?_
  obtain ⟨n2, hpl2, b2, _⟩ := ckS_ok k2
  have q2 := (lenSum_nonneg l2 hpl2).1
  have kc2 := fun lk H' (hE : Ext H H') => p_Check lk H' a2 l2 l2.length rfl (by omega) m2 (hE.sl hsa2)
  rw [k2] at kc2
  obtain ⟨n1, hpl1, b1, _⟩ := ckS_ok k1
  have q1 := (lenSum_nonneg l1 hpl1).1
  have kc1 := fun lk H' (hE : Ext H H') => p_Check lk H' a1 l1 l1.length rfl (by omega) m1 (hE.sl hsa1)
  rw [k1] at kc1
  have c02 : ((0 : Int) < ((2 : Nat) : Int)) = True := eq_true (by decide)
  have c12 : ((1 : Int) < ((2 : Nat) : Int)) = True := eq_true (by decide)
  have c22 : ((2 : Int) < ((2 : Nat) : Int)) = False := eq_false (by decide)
  have e01 : IntKind.i64.wrap ((0 : Int) + 1) = 1 := by decide
  have e11 : IntKind.i64.wrap ((1 : Int) + 1) = 2 := by decide
  have kc1' := kc1 H.length (H ++ [⟨[.slice a1 l1.length l1.length, .slice a2 l2.length l2.length], 1, false⟩]) (Ext.app _ _)
  simp -dsimp only [go_sem, reps]
  refine r_unroll ?_
  simp -dsimp only [go_sem, c02, kc1']
  refine r_loop_to 2 (J := fun σ H' => Ext H H' ∧ ilive H' H.length = some ⟨[.slice a1 l1.length l1.length, .slice a2 l2.length l2.length], 1, false⟩ ∧ σ 0 = .slice a1 l1.length l1.length ∧ σ 1 = .slice a2 l2.length l2.length ∧ σ 19 = .slice (some ⟨H.length, 0, none⟩) 2 2 ∧ σ 20 = .int .i64 ((2 : Nat) : Int) ∧ σ 21 = .int .i64 0 ∧ σ 6 = .int .i64 (0 + lenSum l1)) (m := fun i : Nat => l1.length - i) (I := fun (i : Nat) σ H' => i ≤ l1.length ∧ Ext H H' ∧ ilive H' H.length = some ⟨[.slice a1 l1.length l1.length, .slice a2 l2.length l2.length], 1, false⟩ ∧ σ 0 = .slice a1 l1.length l1.length ∧ σ 1 = .slice a2 l2.length l2.length ∧ σ 19 = .slice (some ⟨H.length, 0, none⟩) 2 2 ∧ σ 20 = .int .i64 ((2 : Nat) : Int) ∧ σ 21 = .int .i64 0 ∧ σ 6 = .int .i64 (0 + lenSum (l1.take i)) ∧ σ 30 = .slice a1 l1.length l1.length ∧ σ 31 = .int .i64 (l1.length : Int) ∧ σ 32 = .int .i64 (i : Int)) 0 ⟨Nat.zero_le _, Ext.app _ _, ilive_new _ _, rfl, rfl, rfl, rfl, rfl, by simp [lenSum, go_sem], rfl, rfl, rfl⟩ ?_ ?_
  · rintro i σ H' ⟨i1, hE, hc, g0, g1, g19, g20, g21, g6, g30, g31, g32⟩
    by_cases hi : i < l1.length
    · have c1 : ((i : Int) < (l1.length : Int)) = True := eq_true (by omega)
      obtain ⟨b, o, B, heq, hB, hz, hg⟩ := (hE.sl hsa1).sd i hi
      subst heq
      have hlo := hE.le
      have hst := lenSum_take l1 i hi
      have hb := lenSum_bounds l1 hpl1 i (by omega)
      have hb2 := lenSum_bounds l1 hpl1 (i + 1) (by omega)
      have e7 : IntKind.i64.wrap ((i : Int) + 1) = ((i + 1 : Nat) : Int) := by rw [w64 (by omega) (by omega)]; omega
      have e8 : IntKind.i64.wrap (0 + lenSum (l1.take i) + l1[i].n) = 0 + lenSum (l1.take (i + 1)) := by rw [w64 (by omega) (by omega), hst]; omega
      simp -dsimp only [go_sem, g6, g30, g31, g32, c1, hB, hz, hg, hi, e7, e8, hlo]
      exact next (i + 1) (by show l1.length - (i + 1) < l1.length - i; omega) ⟨hi, hE.more _, ilive_app hc, g0, g1, g19, g20, g21, rfl, g30, g31, rfl⟩
    · have c1 : ((i : Int) < (l1.length : Int)) = False := eq_false (by omega)
      have hil : i = l1.length := by omega
      rw [hil, List.take_length] at g6
      simp -dsimp only [go_sem, g31, g32, c1]
      exact mk ⟨hE, hc, g0, g1, g19, g20, g21, g6⟩
  rintro σ H1 ⟨hE1, hc1, g0, g1, g19, g20, g21, g6⟩
  simp -dsimp only [go_sem, g21, e01]
  refine r_unroll ?_
  have kc2' := kc2 H.length H1 hE1
  simp -dsimp only [go_sem, g19, g20, c12, hc1, kc2']
  refine r_loop_to 2 (J := fun σ H' => Ext H H' ∧ ilive H' H.length = some ⟨[.slice a1 l1.length l1.length, .slice a2 l2.length l2.length], 1, false⟩ ∧ σ 0 = .slice a1 l1.length l1.length ∧ σ 1 = .slice a2 l2.length l2.length ∧ σ 19 = .slice (some ⟨H.length, 0, none⟩) 2 2 ∧ σ 20 = .int .i64 ((2 : Nat) : Int) ∧ σ 21 = .int .i64 1 ∧ σ 6 = .int .i64 (0 + lenSum l1 + lenSum l2)) (m := fun i : Nat => l2.length - i) (I := fun (i : Nat) σ H' => i ≤ l2.length ∧ Ext H H' ∧ ilive H' H.length = some ⟨[.slice a1 l1.length l1.length, .slice a2 l2.length l2.length], 1, false⟩ ∧ σ 0 = .slice a1 l1.length l1.length ∧ σ 1 = .slice a2 l2.length l2.length ∧ σ 19 = .slice (some ⟨H.length, 0, none⟩) 2 2 ∧ σ 20 = .int .i64 ((2 : Nat) : Int) ∧ σ 21 = .int .i64 1 ∧ σ 6 = .int .i64 (0 + lenSum l1 + lenSum (l2.take i)) ∧ σ 30 = .slice a2 l2.length l2.length ∧ σ 31 = .int .i64 (l2.length : Int) ∧ σ 32 = .int .i64 (i : Int)) 0 ⟨Nat.zero_le _, hE1, hc1, g0, g1, g19, g20, rfl, by simp only [List.take_zero, lenSum, Int.add_zero]; exact g6, rfl, rfl, rfl⟩ ?_ ?_
  · rintro i σ H' ⟨i1, hE, hc, g0, g1, g19, g20, g21, g6, g30, g31, g32⟩
    by_cases hi : i < l2.length
    · have c1 : ((i : Int) < (l2.length : Int)) = True := eq_true (by omega)
      obtain ⟨b, o, B, heq, hB, hz, hg⟩ := (hE.sl hsa2).sd i hi
      subst heq
      have hlo := hE.le
      have hst := lenSum_take l2 i hi
      have hb := lenSum_bounds l2 hpl2 i (by omega)
      have hb2 := lenSum_bounds l2 hpl2 (i + 1) (by omega)
      have e7 : IntKind.i64.wrap ((i : Int) + 1) = ((i + 1 : Nat) : Int) := by rw [w64 (by omega) (by omega)]; omega
      have e8 : IntKind.i64.wrap (0 + lenSum l1 + lenSum (l2.take i) + l2[i].n) = 0 + lenSum l1 + lenSum (l2.take (i + 1)) := by rw [w64 (by omega) (by omega), hst]; omega
      simp -dsimp only [go_sem, g6, g30, g31, g32, c1, hB, hz, hg, hi, e7, e8, hlo]
      exact next (i + 1) (by show l2.length - (i + 1) < l2.length - i; omega) ⟨hi, hE.more _, ilive_app hc, g0, g1, g19, g20, g21, rfl, g30, g31, rfl⟩
    · have c1 : ((i : Int) < (l2.length : Int)) = False := eq_false (by omega)
      have hil : i = l2.length := by omega
      rw [hil, List.take_length] at g6
      simp -dsimp only [go_sem, g31, g32, c1]
      exact mk ⟨hE, hc, g0, g1, g19, g20, g21, g6⟩
  clear g0 g1 g19 g20 g21 g6
  rintro σ H2 ⟨hE2, hc2, g0, g1, g19, g20, g21, g6⟩
  simp -dsimp only [go_sem, g21, e11]
  refine r_unroll ?_
  have c64 : (64 < 0 + lenSum l1 + lenSum l2) = True := eq_true (by omega)
  simp -dsimp only [go_sem, g20, c22, g6, c64]
  exact compV_nilE
end Gx
end
