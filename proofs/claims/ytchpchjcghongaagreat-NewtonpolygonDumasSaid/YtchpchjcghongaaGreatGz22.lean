/- Lemmas: plain facts, or contracts of functions that are reached, in the interpreter without world and addresses. -/
import Derived.Test.YtchpchjcghongaaGreatGz18
import Derived.Test.YtchpchjcghongaaGreatGz21
import Derived.Sort.LotA
import Derived.Sort.LotB
import Derived.Sort.LotD3
set_option linter.all false
set_option linter.unusedVariables false
set_option linter.unusedSimpArgs false
set_option linter.unnecessarySimpa false
set_option linter.deprecated false
section
set_option autoImplicit false
namespace Gx
open Go Go.Proofs
set_option maxRecDepth 10000
theorem rcmp_lt (a b : Rat) : rcmp a b < 0 ↔ a < b := by
  have := rcmp_ge a b
  rw [eq_iff_iff] at this
  constructor
  · intro h
    refine Classical.byContradiction fun hn => ?_
    have := this.2 hn
    omega
  · intro h
    refine Classical.byContradiction fun hn => ?_
    exact this.1 (by omega) h
theorem swoS : Go.Sort.SWO ltS where
  irrefl x := decide_eq_false (fun h => Rat.lt_irrefl ((rcmp_lt _ _).1 h))
  trans x y z h1 h2 := by
    have h1 := (rcmp_lt _ _).1 (of_decide_eq_true h1)
    have h2 := (rcmp_lt _ _).1 (of_decide_eq_true h2)
    exact decide_eq_true ((rcmp_lt _ _).2 (Std.lt_trans h1 h2))
  ntrans x y z h1 h2 := by
    have h1 := fun h => of_decide_eq_false h1 ((rcmp_lt _ _).2 h)
    have h2 := fun h => of_decide_eq_false h2 ((rcmp_lt _ _).2 h)
    refine decide_eq_false fun h => ?_
    have h := (rcmp_lt _ _).1 h
    have h1 := Rat.not_lt.1 h1
    have h2 := Rat.not_lt.1 h2
    exact Rat.not_lt.2 (Rat.le_trans h2 h1) h
theorem AllS.bang {d : Array Sd} (h : AllS d) (i : Nat) (hi : i < d.size) : ShS d[i]! := by
  rw [bang_get d i hi]; exact h i hi
theorem AllS.perm {d d' : Array Sd} (h : AllS d) {a e : Nat} (he : e ≤ d.size) (hp : Go.Sort.PermIn a e d d') : AllS d' := by
  intro i hi
  have hi' : i < d.size := by rw [← hp.1]; exact hi
  rw [← bang_get d' i hi]
  by_cases h1 : a ≤ i ∧ i < e
  · exact Go.Sort.permIn_all d d' a e ShS he hp (fun j _ hj => h.bang j (by omega)) i h1.1 h1.2
  · rw [hp.2.1 i (by omega)]; exact h.bang i hi'
/-- What a call comes to, left as it is. -/
def OutH (R : Value → Heap → Prop) (v : Value) (H : Heap) [Tg R] : Prop := R v H
theorem outH {R : Value → Heap → Prop} {v : Value} {H : Heap} (h : R v H) : OutH R v H := h
theorem s_pdq : ∀ (n : Nat) (lk : Nat) (H : Heap) (b : Nat) (d : Array Sd) (a e limit : Nat), e - a ≤ n → a ≤ e → e ≤ d.size → d.size ≤ 100000 → limit ≤ 100000 → lk ≤ b → AllS d → Go.Sort.Below ltS a e d → ilive H b = some ⟨cells d.toList, 4, false⟩ →
    ∃ (R : Array Sd) (N : Heap), gcall Tryz.prog md lk 220 [.slice (some ⟨b, 0, none⟩) d.size d.size, .int .i64 (a : Int), .int .i64 (e : Int), .int .i64 (limit : Int), cmpF] H = some (.tuple #[], H.set b ⟨cells R.toList, 4, false⟩ ++ N) ∧ Go.Sort.PermIn a e d R ∧ Go.Sort.SortedIn ltS a e R := by
  intro n
  induction n using Nat.strongRecOn with
  | _ n ih =>
  intro lk H b d a0 e0 limit0 hn hae he hsz hlim hlk hd hBel hB
  have hbl := ilive_lt hB
  have hl : ∀ (c : List Value) (N : Heap), ilive (H.set b ⟨c, 4, false⟩ ++ N) b = some ⟨c, 4, false⟩ := fun c N => ilive_app (ilive_set_self hbl rfl)
  have hs : ∀ (C C' : Blk) (N : Heap), (H.set b C ++ N).set b C' = H.set b C' ++ N := fun C C' N => by
    have := set_app_l (H.set b C) N C' b (by simpa using hbl)
    rw [List.set_set] at this
    exact this
  have key := pcall_raw (P := Tryz.prog) (md := md) (lk := lk) (g := 220) (fn := Tryz.f220) (args := [.slice (some ⟨b, 0, none⟩) d.size d.size, .int .i64 (a0 : Int), .int .i64 (e0 : Int), .int .i64 (limit0 : Int), cmpF]) (H := H) (by decide) (by decide) (by decide) Tryz.func220 rfl
    (R := fun v H1 => OutH (fun v H1 => v = .tuple #[] ∧ ∃ (R : Array Sd) (N : Heap), H1 = H.set b ⟨cells R.toList, 4, false⟩ ++ N ∧ Go.Sort.PermIn a0 e0 d R ∧ Go.Sort.SortedIn ltS a0 e0 R) v H1) ?_
  · obtain ⟨v, H1, k1, rfl, R, N, rfl, k2, k3⟩ := key
    exact ⟨R, N, by rw [gcall_go Tryz.func220 rfl]; exact k1, k2, k3⟩
  simp -dsimp only [go_sem]
  refine r_loop (m := fun (s : Nat × Nat × Nat × Bool × Bool × Array Sd) => s.2.1 - s.1) (I := fun s σ H' => s.1 ≤ s.2.1 ∧ s.2.1 ≤ d.size ∧ s.2.1 - s.1 ≤ n ∧ s.2.2.1 ≤ 100000 ∧ s.2.2.2.2.2.size = d.size ∧ AllS s.2.2.2.2.2 ∧ Go.Sort.Below ltS s.1 s.2.1 s.2.2.2.2.2 ∧ (∀ R, Go.Sort.PermIn s.1 s.2.1 s.2.2.2.2.2 R → Go.Sort.SortedIn ltS s.1 s.2.1 R → Go.Sort.PermIn a0 e0 d R ∧ Go.Sort.SortedIn ltS a0 e0 R) ∧ (∃ N, H' = H.set b ⟨cells s.2.2.2.2.2.toList, 4, false⟩ ++ N) ∧ σ 0 = .slice (some ⟨b, 0, none⟩) d.size d.size ∧ σ 1 = .int .i64 ((s.1 : Nat) : Int) ∧ σ 2 = .int .i64 ((s.2.1 : Nat) : Int) ∧ σ 3 = .int .i64 ((s.2.2.1 : Nat) : Int) ∧ σ 4 = cmpF ∧ σ 10 = .bool s.2.2.2.1 ∧ σ 11 = .bool s.2.2.2.2.1) (a0, e0, limit0, true, true, d) ⟨hae, he, hn, hlim, rfl, hd, hBel, fun R h1 h2 => ⟨h1, h2⟩, ⟨[], by simp only []; rw [set_same hB]; simp⟩, rfl, rfl, rfl, rfl, rfl, rfl, rfl⟩ ?_
  rintro ⟨a, e, lim, wb, wp, d1⟩ σ H' ⟨hae, he, hn, hlim, z1, hd1, hBel, hfin, ⟨N, rfl⟩, g0, g1, g2, g3, g4, g10, g11⟩
  simp only [] at hae he hn hlim z1 hd1 hBel hfin g1 g2 g3 g10 g11
  have e1 : IntKind.i64.wrap ((e : Int) - (a : Int)) = ((e - a : Nat) : Int) := by rw [w64 (by omega) (by omega)]; omega
  have hed1 : e ≤ d1.size := by omega
  by_cases h12 : e - a ≤ 12
  · have c12 : (((e - a : Nat) : Int) ≤ 12) = True := eq_true (by omega)
    have ks := s_ins lk _ b d1 a e hae hed1 (by omega) hlk hd1 (hl _ N)
    rw [z1, hs] at ks
    have hi := Go.Sort.insertionSort_holds swoS d1 a e hae hed1
    have hf := hfin _ hi.1 hi.2
    simp -dsimp only [go_sem, g0, g1, g2, g3, g4, g10, g11, e1, c12, ks]
    exact outH ⟨rfl, _, _, rfl, hf⟩
  have c12 : (((e - a : Nat) : Int) ≤ 12) = False := eq_false (by omega)
  by_cases hl0 : lim = 0
  · have cl0 : ((lim : Int) = 0) = True := eq_true (by omega)
    have ks := s_heap lk _ b d1 a e (by omega) hed1 (by omega) hlk hd1 (hl _ N)
    rw [z1, hs] at ks
    have hi := Go.Sort.heapSort_holds swoS d1 a e hae hed1
    have hf := hfin _ hi.1 hi.2
    simp -dsimp only [go_sem, g0, g1, g2, g3, g4, g10, g11, e1, c12, cl0, ks]
    exact outH ⟨rfl, _, _, rfl, hf⟩
  have cl0 : ((lim : Int) = 0) = False := eq_false (by omega)
  simp -dsimp only [go_sem, g0, g1, g2, g3, g4, g10, g11, e1, c12, cl0]
  refine gw_join (fun σ H' => ∃ (d2 : Array Sd) (N : Heap) (lim2 : Nat), Go.Sort.PermIn a e d1 d2 ∧ lim2 ≤ 100000 ∧ H' = H.set b ⟨cells d2.toList, 4, false⟩ ++ N ∧ σ 0 = .slice (some ⟨b, 0, none⟩) d.size d.size ∧ σ 1 = .int .i64 ((a : Nat) : Int) ∧ σ 2 = .int .i64 ((e : Nat) : Int) ∧ σ 3 = .int .i64 ((lim2 : Nat) : Int) ∧ σ 4 = cmpF ∧ σ 10 = .bool wb ∧ σ 11 = .bool wp ∧ σ 12 = .int .i64 ((e - a : Nat) : Int)) (fun h => ?_) (fun h => ?_) ?_
  · simp -dsimp only [go_sem]
    exact ⟨d1, N, lim, Go.Sort.permIn_refl d1 a e, hlim, rfl, g0, g1, g2, g3, g4, g10, g11, rfl⟩
  · obtain ⟨r, ks⟩ := s_break lk _ b d1 a e (by omega) hed1 (by omega) hlk hd1 (hl _ N)
    rw [z1, hs, List.append_assoc] at ks
    have e2 : IntKind.i64.wrap ((lim : Int) - 1) = ((lim - 1 : Nat) : Int) := by rw [w64 (by omega) (by omega)]; omega
    simp -dsimp only [go_sem, g0, g1, g2, g3, g4, g10, g11, ks, e2]
    exact ⟨_, _, lim - 1, Go.Sort.breakPatterns_holds d1 a e hae hed1, by omega, rfl, g0, g1, g2, rfl, g4, g10, g11, rfl⟩
  clear g0 g1 g2 g3 g4 g10 g11 cl0 c12
  rintro σ H' ⟨d2, N2, lim2, hp2, hlim2, rfl, g0, g1, g2, g3, g4, g10, g11, g12⟩
  have z2 : d2.size = d.size := by rw [hp2.1]; exact z1
  have hd2 := hd1.perm hed1 hp2
  have hed2 : e ≤ d2.size := by omega
  have kc := s_choose lk _ b d2 a e (by omega) hed2 (by omega) hd2 (hl _ N2)
  rw [z2] at kc
  have hc0 := Go.Sort.choosePivot_holds ltS d2 a e (by omega)
  generalize Go.Sort.choosePivot ltS d2 a e = c at *
  obtain ⟨pv, ht⟩ := c
  simp only [] at kc hc0
  simp -dsimp only [go_sem, g0, g1, g2, g3, g4, g10, g11, kc]
  refine gw_join (fun σ H' => ∃ (d3 : Array Sd) (N : Heap) (pv3 : Nat) (ht3 : Int), Go.Sort.PermIn a e d2 d3 ∧ a ≤ pv3 ∧ pv3 < e ∧ H' = H.set b ⟨cells d3.toList, 4, false⟩ ++ N ∧ σ 0 = .slice (some ⟨b, 0, none⟩) d.size d.size ∧ σ 1 = .int .i64 ((a : Nat) : Int) ∧ σ 2 = .int .i64 ((e : Nat) : Int) ∧ σ 3 = .int .i64 ((lim2 : Nat) : Int) ∧ σ 4 = cmpF ∧ σ 10 = .bool wb ∧ σ 11 = .bool wp ∧ σ 12 = .int .i64 ((e - a : Nat) : Int) ∧ σ 13 = .int .i64 ((pv3 : Nat) : Int) ∧ σ 14 = .int .i64 ht3) (fun h => ?_) (fun h => ?_) ?_
  · have ks := s_rev lk _ b d2 a e (by omega) hed2 (by omega) (by omega) hlk (hl _ N2)
    rw [z2, hs] at ks
    have e2 : IntKind.i64.wrap ((e : Int) - 1) = ((e - 1 : Nat) : Int) := by rw [w64 (by omega) (by omega)]; omega
    have e3 : IntKind.i64.wrap ((pv : Int) - (a : Int)) = ((pv - a : Nat) : Int) := by rw [w64 (by omega) (by omega)]; omega
    have e4 : IntKind.i64.wrap (((e - 1 : Nat) : Int) - ((pv - a : Nat) : Int)) = ((e - 1 - (pv - a) : Nat) : Int) := by rw [w64 (by omega) (by omega)]; omega
    simp -dsimp only [go_sem, g0, g1, g2, g3, g4, g10, g11, ks, e2, e3, e4]
    exact ⟨_, _, e - 1 - (pv - a), 1, Go.Sort.reverseRange_holds d2 a e hae hed2, by omega, by omega, rfl, g0, g1, g2, g3, g4, g10, g11, g12, rfl, rfl⟩
  · simp -dsimp only [go_sem]
    exact ⟨d2, N2, pv, hintN ht, Go.Sort.permIn_refl d2 a e, hc0.1, hc0.2, rfl, g0, g1, g2, g3, g4, g10, g11, g12, rfl, rfl⟩
  clear g0 g1 g2 g3 g4 g10 g11 g12 kc hc0
  rintro σ H' ⟨d3, N3, pv3, ht3, hp3, hpv1, hpv2, rfl, g0, g1, g2, g3, g4, g10, g11, g12, g13, g14⟩
  have z3 : d3.size = d.size := by rw [hp3.1]; exact z2
  have hd3 := hd2.perm hed2 hp3
  have hed3 : e ≤ d3.size := by omega
  have hp13 := Go.Sort.permIn_trans _ _ _ a e hp2 hp3
  have hB3 : Go.Sort.Below ltS a e d3 := hBel.perm hed1 hp13
  have kp := s_pins lk _ b d3 a e (by omega) hed3 (by omega) hlk hd3 (hl _ N3)
  rw [z3, hs] at kp
  have hpi := Go.Sort.partialInsertionSort_holds swoS d3 a e (by omega) hed3 hB3
  generalize Go.Sort.partialInsertionSort ltS d3 a e = pi at *
  obtain ⟨d4, ok⟩ := pi
  simp only [] at kp hpi
  refine r_seq (r_join (fun σ H' => ∃ (d4 : Array Sd) (N : Heap), Go.Sort.PermIn a e d3 d4 ∧ H' = H.set b ⟨cells d4.toList, 4, false⟩ ++ N ∧ σ 0 = .slice (some ⟨b, 0, none⟩) d.size d.size ∧ σ 1 = .int .i64 ((a : Nat) : Int) ∧ σ 2 = .int .i64 ((e : Nat) : Int) ∧ σ 3 = .int .i64 ((lim2 : Nat) : Int) ∧ σ 4 = cmpF ∧ σ 10 = .bool wb ∧ σ 11 = .bool wp ∧ σ 12 = .int .i64 ((e - a : Nat) : Int) ∧ σ 13 = .int .i64 ((pv3 : Nat) : Int)) ?_ ?_)
  · cases wb with
    | false =>
      simp -dsimp only [go_sem, g0, g1, g2, g3, g4, g10, g11, g12, g13, g14]
      exact ⟨d3, N3, Go.Sort.permIn_refl d3 a e, rfl, g0, g1, g2, g3, g4, g10, g11, g12, g13⟩
    | true =>
      cases wp with
      | false =>
        simp -dsimp only [go_sem, g0, g1, g2, g3, g4, g10, g11, g12, g13, g14]
        exact ⟨d3, N3, Go.Sort.permIn_refl d3 a e, rfl, g0, g1, g2, g3, g4, g10, g11, g12, g13⟩
      | true =>
        by_cases h1 : ht3 = 1
        · have ch : (ht3 = 1) = True := eq_true h1
          cases ok with
          | false =>
            simp -dsimp only [go_sem, g0, g1, g2, g3, g4, g10, g11, g12, g13, g14, ch, kp]
            exact ⟨d4, N3, hpi.1, rfl, g0, g1, g2, g3, g4, g10, g11, g12, g13⟩
          | true =>
            have hf := hfin _ (Go.Sort.permIn_trans _ _ _ a e hp13 hpi.1) (hpi.2 rfl)
            simp -dsimp only [go_sem, g0, g1, g2, g3, g4, g10, g11, g12, g13, g14, ch, kp]
            exact outH ⟨rfl, _, _, rfl, hf⟩
        · have ch : (ht3 = 1) = False := eq_false h1
          simp -dsimp only [go_sem, g0, g1, g2, g3, g4, g10, g11, g12, g13, g14, ch]
          exact ⟨d3, N3, Go.Sort.permIn_refl d3 a e, rfl, g0, g1, g2, g3, g4, g10, g11, g12, g13⟩
  clear g0 g1 g2 g3 g4 g10 g11 g12 g13 g14 kp hpi d4
  rintro σ H' ⟨d4, N4, hp4, rfl, g0, g1, g2, g3, g4, g10, g11, g12, g13⟩
  have z4 : d4.size = d.size := by rw [hp4.1]; exact z3
  have hd4 := hd3.perm hed3 hp4
  have hed4 : e ≤ d4.size := by omega
  have hp14 := Go.Sort.permIn_trans _ _ _ a e hp13 hp4
  have hB4 : Go.Sort.Below ltS a e d4 := hBel.perm hed1 hp14
  have hy : pv3 < d4.size := by omega
  have hy' : pv3 < d.size := by omega
  have sy := sdg d4 _ hy
  refine r_seq (r_join (fun σ H' => H' = H.set b ⟨cells d4.toList, 4, false⟩ ++ N4 ∧ σ 0 = .slice (some ⟨b, 0, none⟩) d.size d.size ∧ σ 1 = .int .i64 ((a : Nat) : Int) ∧ σ 2 = .int .i64 ((e : Nat) : Int) ∧ σ 3 = .int .i64 ((lim2 : Nat) : Int) ∧ σ 4 = cmpF ∧ σ 10 = .bool wb ∧ σ 11 = .bool wp ∧ σ 12 = .int .i64 ((e - a : Nat) : Int) ∧ σ 13 = .int .i64 ((pv3 : Nat) : Int)) ?_ ?_)
  · by_cases ha0 : 0 < a
    · have ca : (0 < (a : Int)) = True := eq_true (by omega)
      have e2 : IntKind.i64.wrap ((a : Int) - 1) = ((a - 1 : Nat) : Int) := by rw [w64 (by omega) (by omega)]; omega
      have hx : a - 1 < d4.size := by omega
      have hx' : a - 1 < d.size := by omega
      have sx := sdg d4 _ hx
      have kk := cmpS_run hd4 hx hy
      by_cases hlt : rcmp d4[a - 1].s d4[pv3].s < 0
      · have cl : (rcmp d4[a - 1].s d4[pv3].s < 0) = True := eq_true hlt
        simp -dsimp only [go_sem, g0, g1, g2, g3, g4, g10, g11, g12, g13, ca, e2, hl, sx, sy, hx', hy', kk, cl]
        exact ⟨rfl, g0, g1, g2, g3, g4, g10, g11, g12, g13⟩
      · have cl : (rcmp d4[a - 1].s d4[pv3].s < 0) = False := eq_false hlt
        have kq := s_partEq lk _ b d4 a e pv3 hpv1 hpv2 hed4 (by omega) hlk hd4 (hl _ N4)
        rw [z4, hs] at kq
        generalize hq : Go.Sort.partitionEqual ltS d4 a e pv3 = q at *
        obtain ⟨mid, d5⟩ := q
        obtain ⟨m1, m2, hz5, hB5, hfin5⟩ := Go.Sort.round_eq swoS (Go.Sort.partitionEqual_holds ltS) ha0 hpv1 hpv2 hed4 hB4 (by rw [ltS_bang d4 hx hy]; exact decide_eq_false hlt) hq
        have hperm5 : Go.Sort.PermIn a e d4 d5 := by
          have hge : ∀ i, a ≤ i → i < e → ltS d4[i]! d4[pv3]! = false := fun i hi hi' => by
            rcases hB4 with h0 | hB4
            · omega
            · exact swoS.ntrans _ _ _ (hB4 i hi hi') (by rw [ltS_bang d4 hx hy]; exact decide_eq_false hlt)
          have := (Go.Sort.partitionEqual_holds ltS swoS d4 a e pv3 hpv1 hpv2 hed4 hge).2.2.1
          rw [hq] at this
          exact this
        simp only [] at kq
        simp -dsimp only [go_sem, g0, g1, g2, g3, g4, g10, g11, g12, g13, ca, e2, hl, sx, sy, hx', hy', kk, cl, kq]
        exact next (mid, e, lim2, wb, wp, d5) (by show e - mid < e - a; omega) ⟨m2, he, by simp only []; omega, hlim2, by simp only []; omega, hd4.perm hed4 hperm5, hB5, fun R h1 h2 => by
          obtain ⟨q1, q2⟩ := hfin5 R h1 h2
          exact hfin R (Go.Sort.permIn_trans _ _ _ a e hp14 q1) q2, ⟨_, rfl⟩, g0, rfl, g2, g3, g4, g10, g11⟩
    · have ca : (0 < (a : Int)) = False := eq_false (by omega)
      simp -dsimp only [go_sem, g0, g1, g2, g3, g4, g10, g11, g12, g13, ca]
      exact ⟨rfl, g0, g1, g2, g3, g4, g10, g11, g12, g13⟩
  clear g0 g1 g2 g3 g4 g10 g11 g12 g13
  rintro σ H' ⟨rfl, g0, g1, g2, g3, g4, g10, g11, g12, g13⟩
  have kq := s_part lk _ b d4 a e pv3 hpv1 hpv2 hed4 (by omega) hlk hd4 (hl _ N4)
  rw [z4, hs] at kq
  have hperm5 := (Go.Sort.partition_holds ltS swoS d4 a e pv3 hpv1 hpv2 hed4).2.2.1
  generalize hq : Go.Sort.partition ltS d4 a e pv3 = q at *
  obtain ⟨mid, ap, d5⟩ := q
  obtain ⟨m1, m2, hz5, hBa, hBr, hleft, hright⟩ := Go.Sort.round_part swoS (Go.Sort.partition_holds ltS) hpv1 hpv2 hed4 hB4 hq
  simp only [] at kq hperm5
  have hd5 := hd4.perm hed4 hperm5
  have e2 : IntKind.i64.wrap ((mid : Int) - (a : Int)) = ((mid - a : Nat) : Int) := by rw [w64 (by omega) (by omega)]; omega
  have e3 : IntKind.i64.wrap ((e : Int) - (mid : Int)) = ((e - mid : Nat) : Int) := by rw [w64 (by omega) (by omega)]; omega
  have e4 : IntKind.i64.wrap (Int.tdiv ((e - a : Nat) : Int) 8) = (((e - a) / 8 : Nat) : Int) := by
    rw [show Int.tdiv ((e - a : Nat) : Int) 8 = (((e - a) / 8 : Nat) : Int) from rfl, w64 (by omega) (by omega)]
  have e5 : IntKind.i64.wrap ((mid : Int) + 1) = ((mid + 1 : Nat) : Int) := by rw [w64 (by omega) (by omega)]; omega
  by_cases hlr : mid - a < e - mid
  · have clr : (((mid - a : Nat) : Int) < ((e - mid : Nat) : Int)) = True := eq_true (by omega)
    obtain ⟨L, NL, kr, l1, l2⟩ := ih (mid - a) (by omega) lk _ b d5 a mid lim2 (Nat.le_refl _) m1 (by omega) (by omega) hlim2 hlk hd5 hBa (hl _ N4)
    rw [hz5, z4, hs, List.append_assoc] at kr
    obtain ⟨hBL, hfL⟩ := hleft L l1 l2
    simp -dsimp only [go_sem, g0, g1, g2, g3, g4, g10, g11, g12, g13, kq, e2, e3, e4, e5, clr, kr]
    exact next (mid + 1, e, lim2, _, ap, L) (by show e - (mid + 1) < e - a; omega) ⟨by simp only []; omega, he, by simp only []; omega, hlim2, by simp only []; rw [l1.1]; omega, hd5.perm (by omega) l1, hBL, fun R h1 h2 => by
      obtain ⟨q1, q2⟩ := hfL R h1 h2
      exact hfin R (Go.Sort.permIn_trans _ _ _ a e hp14 q1) q2, ⟨_, rfl⟩, g0, rfl, g2, g3, g4, rfl, rfl⟩
  · have clr : (((mid - a : Nat) : Int) < ((e - mid : Nat) : Int)) = False := eq_false (by omega)
    obtain ⟨L, NL, kr, l1, l2⟩ := ih (e - (mid + 1)) (by omega) lk _ b d5 (mid + 1) e lim2 (Nat.le_refl _) (by omega) (by omega) (by omega) hlim2 hlk hd5 hBr (hl _ N4)
    rw [hz5, z4, hs, List.append_assoc] at kr
    obtain ⟨hBL, hfL⟩ := hright L l1 l2
    simp -dsimp only [go_sem, g0, g1, g2, g3, g4, g10, g11, g12, g13, kq, e2, e3, e4, e5, clr, kr]
    exact next (a, mid, lim2, _, ap, L) (by show mid - a < e - a; omega) ⟨by simp only []; omega, by simp only []; omega, by simp only []; omega, hlim2, by simp only []; rw [l1.1]; omega, hd5.perm (by omega) l1, hBL, fun R h1 h2 => by
      obtain ⟨q1, q2⟩ := hfL R h1 h2
      exact hfin R (Go.Sort.permIn_trans _ _ _ a e hp14 q1) q2, ⟨_, rfl⟩, g0, g1, rfl, g3, g4, rfl, rfl⟩
end Gx
end
section
set_option autoImplicit false
namespace Gx
open Go Go.Proofs
set_option maxRecDepth 10000
section
variable {P : Program} {md : FuncId → Nat} {lk : Nat} {σ : Env} {H : Heap} {Q : Ex → Env → Heap → Prop}
/-- One round of a loop, and the loop again. -/
theorem r_unroll {c : Code} (h : Runs P md lk c σ H (Then P md lk (.loop c) Q)) : Runs P md lk (.loop c) σ H Q := by
  obtain ⟨n, e, σ1, H1, h1, h2⟩ := h
  cases e with
  | normal =>
    obtain ⟨m, e2, σ2, H2, h3, h4⟩ := h2
    refine ⟨max n m + 1, e2, σ2, H2, ?_, h4⟩
    simp only [iexec, iexec_le _ _ (Nat.le_max_left n m) _ _ _ _ _ h1, iexec_le _ _ (Nat.le_max_right n m) _ _ _ _ _ h3]
  | exit id => exact ⟨n + 1, _, _, _, by simp only [iexec, h1], h2⟩
  | ret => exact ⟨n + 1, _, _, _, by simp only [iexec, h1], h2⟩
end
section
variable {α : Type} [Enc α]
/-- A slice that grows, perhaps with room behind it. -/
def OwnP (lo : Nat) (H : Heap) (a : Option Addr) (l : List α) : Prop := (a = none ∧ l = []) ∨ ∃ b B, a = some ⟨b, 0, none⟩ ∧ lo ≤ b ∧ ilive H b = some B ∧ B.sz = Enc.n α ∧ B.c.take (l.length * Enc.n α) = cells l ∧ l.length * Enc.n α ≤ B.c.length
theorem Own.p {lo : Nat} {H : Heap} {a : Option Addr} {l : List α} (h : Own lo H a l) : OwnP lo H a l := by
  rcases h with h | ⟨b, h1, h2, h3⟩
  · exact .inl h
  · refine .inr ⟨b, _, h1, h2, h3, rfl, ?_, by rw [lblk_c, cells_len]; exact Nat.le_refl _⟩
    rw [lblk_c, List.take_of_length_le (by rw [cells_len]; exact Nat.le_refl _)]
theorem SL.first {H : Heap} {a : Option Addr} {l : List α} (h : SL H a l) : ifirst H (Enc.n α) l.length (.slice a l.length l.length) = some (cells l) := by
  rcases h with ⟨rfl, rfl⟩ | ⟨b, o, B, rfl, h2, h3, h4, h5⟩
  · rfl
  · rw [ifirst_eq, if_pos ⟨Nat.le_refl _, rfl⟩]
    by_cases h0 : l.length = 0
    · rw [if_pos h0, List.eq_nil_of_length_eq_zero h0]; rfl
    · rw [if_neg h0, h2]
      simp only [h3, if_true]
      unfold isub
      rw [if_pos h5, h4]
variable {P : Program} {lk : Nat} {t t2 e e2 : TypeId} {k by_ : Nat} {zs : List Value}
/-- A list is put behind a growing slice. -/
theorem ap_all {H0 H : Heap} {a b : Option Addr} {l r : List α} (hE : Ext H0 H) (h : OwnP H0.length H a l) (hr : SL H b r) (hlk : lk ≤ H0.length) (he : telem P t = some e) (he2 : telem P t2 = some e2) (hk : tsz P e = some k) (hb : tbytes P e = some by_) (hz : tzero P e = some zs)
    (hkn : k = Enc.n α) (hk0 : 0 < k) (hzs : zs.length = k) (hb0 : 0 < by_) (hle : (l.length + r.length) * by_ ≤ 70368744177664) :
    ∃ a' H', iappend P lk H t t2 (.slice a l.length l.length) (.slice b r.length r.length) = some (.slice a' (l.length + r.length) (l.length + r.length), H') ∧ Ext H0 H' ∧ Own H0.length H' a' (l ++ r) ∧ (a = none → r = [] → a' = none) := by
  subst hkn
  have hf := hr.first
  rw [iappend_eq]
  simp only [he, he2, hk, hb, hz, ilenOf_eq, hf]
  rw [if_pos ⟨hk0, hzs, hb0⟩]
  rcases h with ⟨rfl, rfl⟩ | ⟨c, B, rfl, h2, h3, h4, h5, h6⟩
  · simp only [List.length_nil, Nat.zero_add, List.nil_append] at hle ⊢
    rw [if_pos hle]
    by_cases h0 : r.length = 0
    · rw [if_pos h0, h0]
      have := List.eq_nil_of_length_eq_zero h0
      subst this
      exact ⟨none, H, rfl, hE, Own.nil, fun _ _ => rfl⟩
    · rw [if_neg h0]
      exact ⟨_, _, rfl, hE.more _, .inr ⟨H.length, rfl, hE.le, ilive_new _ _⟩, fun _ h => absurd (by rw [h]; rfl) h0⟩
  · simp only [h3]
    rw [if_pos ⟨trivial, h4, Nat.le_trans hlk h2, hle, by omega⟩, List.drop_zero, h5, ← cells_app]
    refine ⟨_, _, rfl, (hE.set h2 _).more _, .inr ⟨H.length, rfl, hE.le, ?_⟩, fun h => by cases h⟩
    have := ilive_new (H := H.set c { B with dead := true }) (cells (l ++ r)) (Enc.n α)
    rw [List.length_set] at this
    exact this
end
/-- A sort of a slice. -/
theorem s_sort (lk : Nat) (H : Heap) (b : Nat) (l : List Sd) (hl : l.length ≤ 100000) (hlk : lk ≤ b) (hS : ∀ x ∈ l, ShS x) (hB : ilive H b = some (lblk l)) :
    ∃ (r : List Sd) (N : Heap), gcall Tryz.prog md lk 148 [.slice (some ⟨b, 0, none⟩) l.length l.length, cmpF] H = some (.tuple #[], H.set b (lblk r) ++ N) ∧ r.Perm l ∧ r.Pairwise (fun u v => u.s ≤ v.s) := by
  obtain ⟨d, rfl⟩ : ∃ d : Array Sd, l = d.toList := ⟨l.toArray, by simp⟩
  rw [Array.length_toList] at hl ⊢
  have hd : AllS d := fun i hi => hS _ (Array.getElem_mem_toList hi)
  have hbl := blen_le17 hl
  obtain ⟨R, N, k1, k2, k3⟩ := s_pdq d.size lk H b d 0 d.size (blen d.size) (by omega) (Nat.zero_le _) (Nat.le_refl _) hl (by omega) hlk hd (.inl rfl) hB
  rw [Int.natCast_zero] at k1
  refine ⟨R.toList, N, ?_, ?_, ?_⟩
  · refine gcall_raw (by decide) (by decide) (by decide) Tryz.func148 rfl ?_
    have e1 : IntKind.u64.wrap (d.size : Int) = (d.size : Int) := by rw [IntKind.wrap_u64]; omega
    have kl := fun lk H' => c_Len lk H' d.size (by simp only [B64]; omega)
    simp -dsimp only [go_sem, e1, kl, k1]
    rfl
  · have := k2.2.2
    have e : ∀ A : Array Sd, A.size = d.size → (A.extract 0 d.size).toList = A.toList := fun A hA => by
      rw [Array.toList_extract, List.extract_eq_take_drop, List.drop_zero, List.take_of_length_le (by rw [Array.length_toList]; omega)]
    rw [e _ k2.1, e _ rfl] at this
    exact this
  · rw [List.pairwise_iff_getElem]
    intro i j hi hj hij
    rw [Array.length_toList] at hi hj
    have hsz := k2.1
    have := k3 i j (Nat.zero_le _) hij (by omega)
    rw [ltS_bang R hj hi] at this
    have := fun h => of_decide_eq_false this ((rcmp_lt _ _).2 h)
    have := Rat.not_lt.1 this
    simpa using this
theorem s_sort0 (lk : Nat) (H : Heap) : gcall Tryz.prog md lk 148 [.slice none 0 0, cmpF] H = some (.tuple #[], H) := by
  have k0 : ∀ lk H, gcall Tryz.prog md lk 277 [.slice none 0 0, .int .i64 0, .int .i64 0, cmpF] H = some (.tuple #[], H) := fun lk H => by
    refine gcall_raw (by decide) (by decide) (by decide) Tryz.func277 rfl ?_
    have e1 : IntKind.i64.wrap ((0 : Int) + 1) = 1 := by decide
    simp -dsimp only [go_sem, e1]
    refine r_unroll ?_
    have c1 : ((1 : Int) < 0) = False := eq_false (by decide)
    simp -dsimp only [go_sem, c1]
  have k1 : ∀ lk H lim, gcall Tryz.prog md lk 220 [.slice none 0 0, .int .i64 0, .int .i64 0, .int .i64 lim, cmpF] H = some (.tuple #[], H) := fun lk H lim => by
    refine gcall_raw (by decide) (by decide) (by decide) Tryz.func220 rfl ?_
    have e1 : IntKind.i64.wrap ((0 : Int) - 0) = 0 := by decide
    have c1 : ((0 : Int) ≤ 12) = True := eq_true (by decide)
    simp -dsimp only [go_sem]
    refine r_unroll ?_
    simp -dsimp only [go_sem, e1, c1, k0]
  refine gcall_raw (by decide) (by decide) (by decide) Tryz.func148 rfl ?_
  have e1 : IntKind.u64.wrap ((0 : Nat) : Int) = ((0 : Nat) : Int) := by decide
  have kl := fun lk H' => c_Len lk H' 0 (by decide)
  rw [Int.natCast_zero] at e1 kl
  simp -dsimp only [go_sem, e1, kl, k1]
/-- A sort of a slice that grew. -/
theorem s_sortOwn (lk : Nat) {H0 H : Heap} {a : Option Addr} {l : List Sd} (hE : Ext H0 H) (hO : Own H0.length H a l) (hl : l.length ≤ 100000) (hlk : lk ≤ H0.length) (hS : ∀ x ∈ l, ShS x) :
    ∃ (r : List Sd) (H' : Heap), gcall Tryz.prog md lk 148 [.slice a l.length l.length, cmpF] H = some (.tuple #[], H') ∧ Ext H0 H' ∧ Own H0.length H' a r ∧ r.Perm l ∧ r.Pairwise (fun u v => u.s ≤ v.s) := by
  rcases hO with ⟨rfl, rfl⟩ | ⟨b, rfl, h2, h3⟩
  · exact ⟨[], H, s_sort0 lk H, hE, Own.nil, List.Perm.refl _, List.Pairwise.nil⟩
  · obtain ⟨r, N, k1, k2, k3⟩ := s_sort lk H b l hl (Nat.le_trans hlk h2) hS h3
    exact ⟨r, _, k1, (hE.set h2 _).more _, .inr ⟨b, rfl, h2, ilive_app (ilive_set_self (ilive_lt h3) rfl)⟩, k2, k3⟩
theorem islice_nil0 {P : Program} {H : Heap} (t : TypeId) (k : IntKind) : islice P H t (.slice none 0 0) none (some (.int k 0)) none = if ((telem P t).bind (tsz P)).isSome = true then some (.slice none 0 0) else none := by
  simp [islice, ibound]
theorem te_int : telem Tryz.prog 3 = none := by kernel_rfl
/-- Room for n sides. -/
theorem s_grow (lk : Nat) (H0 H : Heap) (n : Nat) (hn : n ≤ 100000) (hE : Ext H0 H) : ∃ a H', gcall Tryz.prog md lk 219 [.slice none 0 0, .int .i64 (n : Int)] H = some (.slice a 0 0, H') ∧ Ext H0 H' ∧ Ext H H' ∧ OwnP H0.length H' a ([] : List Sd) ∧ (n = 0 → a = none) := by
  have c1 : ((n : Int) < 0) = False := eq_false (by omega)
  have e1 : IntKind.i64.wrap ((0 : Int) - 0) = 0 := by decide
  have e2 : IntKind.i64.wrap ((n : Int) - 0) = (n : Int) := by rw [w64 (by omega) (by omega)]; omega
  by_cases h0 : 0 < n
  · have c2 : (0 < (n : Int)) = True := eq_true (by omega)
    have c3 : ((n : Int) ≤ 9223372036854775807) = True := eq_true (by omega)
    refine ⟨some ⟨H.length, 0, none⟩, H ++ [⟨reps [.bool false, .string (mkS []), .string (mkS []), .int .i64 0] n, 4, false⟩], ?_, hE.more _, Ext.app _ _, .inr ⟨_, _, rfl, hE.le, ilive_new _ _, rfl, by simp [cells], by simp⟩, fun h => by omega⟩
    refine gcall_raw (by decide) (by decide) (by decide) Tryz.func219 rfl ?_
    simp -dsimp only [go_sem, c1, e1, e2, c2, c3, islice_nil0, Option.bind, te_int]
    omega
  · have hn0 : n = 0 := by omega
    subst hn0
    have c2 : (0 < ((0 : Nat) : Int)) = False := eq_false (by omega)
    rw [Int.natCast_zero] at c1 c2 e2 ⊢
    refine ⟨none, H, ?_, hE, Ext.refl _, .inl ⟨rfl, rfl⟩, fun _ => rfl⟩
    refine gcall_raw (by decide) (by decide) (by decide) Tryz.func219 rfl ?_
    simp -dsimp only [go_sem, c1, e1, e2, c2]
end Gx
end
section
set_option autoImplicit false
namespace Gx
open Go Go.Proofs
set_option maxRecDepth 10000
theorem teS : telem Tryz.prog 32 = some 41 := by kernel_rfl
theorem tzS : tsz Tryz.prog 41 = some 4 := by kernel_rfl
theorem tbS : tbytes Tryz.prog 41 = some 48 := by kernel_rfl
theorem toS : tzero Tryz.prog 41 = some [.bool false, .string ByteArray.empty, .string ByteArray.empty, .int .i64 0] := by kernel_rfl
/-- A list of sides is put behind another. -/
theorem ap_sides {lk : Nat} {H0 H : Heap} {a b : Option Addr} {l r : List Sd} (hE : Ext H0 H) (h : OwnP H0.length H a l) (hr : SL H b r) (hlk : lk ≤ H0.length) (hle : l.length + r.length ≤ 1000000) :
    ∃ a' H', iappend Tryz.prog lk H 32 32 (.slice a l.length l.length) (.slice b r.length r.length) = some (.slice a' (l.length + r.length) (l.length + r.length), H') ∧ Ext H0 H' ∧ Own H0.length H' a' (l ++ r) ∧ (a = none → r = [] → a' = none) :=
  ap_all hE h hr hlk teS teS tzS tbS toS rfl (by decide) rfl (by decide) (by omega)
theorem s_concat (lk : Nat) (H : Heap) (c : Nat) (a1 a2 : Option Addr) (l1 l2 : List Sd) (hc : ilive H c = some ⟨[.slice a1 l1.length l1.length, .slice a2 l2.length l2.length], 1, false⟩) (h1 : SL H a1 l1) (h2 : SL H a2 l2) (hl : l1.length + l2.length ≤ 100000) :
    gcall Tryz.prog md lk 147 [.slice (some ⟨c, 0, none⟩) 2 2] H = some (.slice (mkA H (l1 ++ l2)) (l1.length + l2.length) (l1.length + l2.length), H ++ mkN (l1 ++ l2)) := by
  refine gcall_own rfl Tryz.func147 rfl ?_
  have c02 : ((0 : Int) < ((2 : Nat) : Int)) = True := eq_true (by decide)
  have c12 : ((1 : Int) < ((2 : Nat) : Int)) = True := eq_true (by decide)
  have c22 : ((2 : Int) < ((2 : Nat) : Int)) = False := eq_false (by decide)
  have e01 : IntKind.i64.wrap ((0 : Int) + 1) = 1 := by decide
  have e11 : IntKind.i64.wrap ((1 : Int) + 1) = 2 := by decide
  have e1 : IntKind.i64.wrap (0 + (l1.length : Int)) = (l1.length : Int) := by rw [w64 (by omega) (by omega)]; omega
  have e2 : IntKind.i64.wrap ((l1.length : Int) + (l2.length : Int)) = ((l1.length + l2.length : Nat) : Int) := by rw [w64 (by omega) (by omega)]; omega
  have f1 : ((l1.length : Int) < 0) = False := eq_false (by omega)
  have f2 : (((l1.length + l2.length : Nat) : Int) < 0) = False := eq_false (by omega)
  have t0 : Int.toNat 0 = 0 := rfl
  have t1 : Int.toNat 1 = 1 := rfl
  obtain ⟨a0, G0, kg, hE0, hEE0, hO0, hn0⟩ := s_grow H.length H H (l1.length + l2.length) hl (Ext.refl H)
  have hc0 := hE0.live hc
  obtain ⟨a3, G1, k1, hE1, hO1, hn1⟩ := ap_sides hE0 hO0 (hE0.sl h1) (Nat.le_refl H.length) (by simp only [List.length_nil]; omega)
  rw [List.nil_append] at hO1
  rw [List.length_nil, Nat.zero_add] at k1
  have hc1 := hE1.live hc
  obtain ⟨a4, G2, k2, hE2, hO2, hn2⟩ := ap_sides hE1 hO1.p (hE1.sl h2) (Nat.le_refl H.length) (by omega)
  have hiff : a4 = none ↔ l1 ++ l2 = [] := by
    constructor
    · intro h
      rcases hO2 with ⟨_, h2⟩ | ⟨b, h1, _⟩
      · exact h2
      · rw [h] at h1; cases h1
    · intro h
      obtain ⟨x1, x2⟩ := List.append_eq_nil_iff.1 h
      subst x1; subst x2
      exact hn2 (hn1 (hn0 rfl) rfl) rfl
  have hcv := compV_mk hO2 (n := l1.length + l2.length) (by simp) hiff (cells_kok (fun x => rfl) _)
  simp -dsimp only [go_sem]
  refine r_unroll ?_
  simp -dsimp only [go_sem, c02, hc, e01, e1, f1]
  refine r_unroll ?_
  simp -dsimp only [go_sem, c12, hc, e11, e2, f2]
  refine r_unroll ?_
  simp -dsimp only [go_sem, c22, kg]
  refine r_unroll ?_
  simp -dsimp only [go_sem, c02, hc0, e01, k1]
  refine r_unroll ?_
  simp -dsimp only [go_sem, c12, hc1, e11, k2]
  refine r_unroll ?_
  simp -dsimp only [go_sem, c22]
  exact hcv
end Gx
end
section
set_option autoImplicit false
namespace Gx
open Go Go.Proofs
set_option maxRecDepth 10000
theorem lenSum_nonneg : ∀ (l : List Sd), (∀ x ∈ l, 0 < x.n) → 0 ≤ lenSum l ∧ (l.length : Int) ≤ lenSum l ∧ ∀ x ∈ l, x.n ≤ lenSum l
  | [], _ => ⟨Int.le_refl _, Int.le_refl _, fun x hx => by simp at hx⟩
  | y :: r, h => by
    have ih := lenSum_nonneg r (fun x hx => h x (List.mem_cons_of_mem _ hx))
    have hy := h y (by simp)
    refine ⟨?_, ?_, fun x hx => ?_⟩
    · show 0 ≤ y.n + lenSum r; omega
    · show ((r.length + 1 : Nat) : Int) ≤ y.n + lenSum r; omega
    · show x.n ≤ y.n + lenSum r
      rcases List.mem_cons.1 hx with rfl | hx
      · omega
      · have := ih.2.2 x hx; omega
theorem lenSum_bounds (l : List Sd) (h : ∀ x ∈ l, 0 < x.n) (i : Nat) (hi : i ≤ l.length) : 0 ≤ lenSum (l.take i) ∧ lenSum (l.take i) ≤ lenSum l := by
  have h1 := lenSum_nonneg (l.take i) (fun x hx => h x (List.mem_of_mem_take hx))
  have h2 := lenSum_nonneg (l.drop i) (fun x hx => h x (List.mem_of_mem_drop hx))
  have h3 : lenSum l = lenSum (l.take i) + lenSum (l.drop i) := by rw [← lenSum_app, List.take_append_drop]
  omega
theorem lenSum_perm {a b : List Sd} (h : a.Perm b) : lenSum a = lenSum b := by
  induction h with
  | nil => rfl
  | cons x _ ih => simp only [lenSum, ih]
  | swap x y l => simp only [lenSum]; omega
  | trans _ _ h1 h2 => rw [h1, h2]
theorem mg_sum (l : List Sd) (h : ∀ x ∈ l, 0 < x.n) : (∀ y ∈ mg l, 0 < y.n) ∧ lenSum (mg l) = lenSum l ∧ (mg l).length ≤ l.length := by
  have : ∀ n, n ≤ l.length → (∀ y ∈ mg (l.take n), 0 < y.n) ∧ lenSum (mg (l.take n)) = lenSum (l.take n) ∧ (mg (l.take n)).length ≤ n := by
    intro n
    induction n with
    | zero => intro _; exact ⟨fun y hy => by simp [mg] at hy, rfl, Nat.le_refl _⟩
    | succ n ih =>
      intro hn
      obtain ⟨h1, h2, h3⟩ := ih (by omega)
      have hx := h l[n] (List.getElem_mem _)
      have et : l.take (n + 1) = l.take n ++ [l[n]] := by
        rw [List.take_add_one, List.getElem?_eq_getElem (by omega), Option.toList_some]
      rw [et, mg_app, lenSum_app, ← h2]
      generalize mg (l.take n) = out at *
      generalize l[n] = x at *
      unfold mgStep
      rcases List.eq_nil_or_concat out with rfl | ⟨o, y, rfl⟩
      · simp only [List.getLast?_nil]
        exact ⟨fun z hz => by simp at hz; rw [hz]; exact hx, by simp [lenSum], by simp⟩
      · rw [List.concat_eq_append] at *
        simp only [List.getLast?_append, List.getLast?_singleton, Option.some_or, List.dropLast_concat]
        by_cases he : y.s = x.s
        · rw [if_pos he]
          have hy := h1 y (by simp)
          refine ⟨fun z hz => ?_, ?_, ?_⟩
          · rcases List.mem_append.1 hz with hz | hz
            · exact h1 z (List.mem_append_left _ hz)
            · simp at hz; rw [hz]; show 0 < y.n + x.n; omega
          · simp only [lenSum_app, lenSum]; omega
          · simp at h3 ⊢; omega
        · rw [if_neg he]
          refine ⟨fun z hz => ?_, ?_, ?_⟩
          · rcases List.mem_append.1 hz with hz | hz
            · exact h1 z hz
            · simp at hz; rw [hz]; exact hx
          · rw [lenSum_app]
          · simp at h3 ⊢; omega
  have := this l.length (Nat.le_refl _)
  rwa [List.take_length] at this
theorem ownThru {α : Type} [Enc α] {lo : Nat} {H : Heap} {a b : Option Addr} {l : List α} (h : Own lo H a l) (hne : ∀ c o e c' o' e', a = some ⟨c, o, e⟩ → b = some ⟨c', o', e'⟩ → c' ≠ c) (N M : Heap) : Own lo (Gx.kill (H ++ N) b ++ M) a l := by
  rcases h with h | ⟨c, h1, h2, h3⟩
  · exact .inl h
  · exact .inr ⟨c, h1, h2, ilive_app (kill_other (ilive_app h3) (fun c' o' e' hb => hne c 0 none c' o' e' h1 hb))⟩
theorem ownLt {α : Type} [Enc α] {lo : Nat} {H : Heap} {a : Option Addr} {l : List α} (h : Own lo H a l) : ∀ c o e, a = some ⟨c, o, e⟩ → lo ≤ c ∧ c < H.length := by
  intro c o e ha
  rcases h with ⟨h, _⟩ | ⟨b, h, h2, h4⟩
  · rw [h] at ha; cases ha
  · rw [h] at ha; cases ha; exact ⟨h2, ilive_lt h4⟩
theorem iput_last (A : List Value) (e0 e1 e2 e3 v : Value) : iput (A ++ [e0, e1, e2, e3]) (A.length + 3) [v] = A ++ [e0, e1, e2, v] := by
  unfold iput
  rw [List.take_append, List.drop_append]
  rw [List.take_of_length_le (by omega), List.drop_of_length_le (by simp; omega), Nat.add_sub_cancel_left, show A.length + 3 + [v].length - A.length = 4 by simp; omega]
  simp
theorem isub3 {c : List Value} {o : Nat} {w x y z : Value} (h : isub c o 4 = some [w, x, y, z]) : isub c o 3 = some [w, x, y] := by
  unfold isub at h ⊢
  split at h
  · injection h with h
    rw [if_pos (by omega)]
    congr 1
    have : ((c.drop o).take 4).take 3 = [w, x, y] := by rw [h]; rfl
    rw [← this, List.take_take]; rfl
  · cases h
theorem ckS_ok {l : List Sd} (h : ckS l = 0) : l.length ≤ 64 ∧ (∀ x ∈ l, 0 < x.n) ∧ lenSum l ≤ 64 ∧ asc l := by
  unfold ckS at h
  split at h
  · cases h
  · rename_i h1
    split at h
    · rename_i h2; exact absurd h h2
    · rename_i h2
      split at h
      · cases h
      · rename_i h3
        split at h
        · cases h
        · rename_i h4
          have h2 : oneFirst l = 0 := Classical.not_not.1 h2
          have key : ∀ l : List Sd, oneFirst l = 0 → ∀ x ∈ l, oneE x = 0 := by
            intro l
            induction l with
            | nil => intro _ x hx; simp at hx
            | cons y r ih =>
              intro h x hx
              unfold oneFirst at h
              by_cases hy : oneE y ≠ 0
              · rw [if_pos hy] at h; exact absurd h hy
              · rw [if_neg hy] at h
                rcases List.mem_cons.1 hx with rfl | hx
                · exact Classical.not_not.1 hy
                · exact ih h x hx
          exact ⟨by omega, fun x hx => by have := oneE_pos (key l h2 x hx); omega, by omega, Classical.not_not.1 h3⟩
theorem p_Sum (lk : Nat) (H : Heap) (a1 a2 : Option Addr) (l1 l2 : List Sd) (hsa1 : SL H a1 l1) (hsa2 : SL H a2 l2) (m1 : ∀ x ∈ l1, SmS x) (m2 : ∀ x ∈ l2, SmS x) (k1 : ckS l1 = 0) (k2 : ckS l2 = 0) (hsum : lenSum l1 + lenSum l2 ≤ 64) :
    ∃ s : List Sd, s.Perm (l1 ++ l2) ∧ s.Pairwise (fun u v => u.s ≤ v.s) ∧ gcall Tryz.prog md lk 65 [.slice a1 l1.length l1.length, .slice a2 l2.length l2.length] H = some (.tuple #[.slice (mkA H (mg s)) (mg s).length (mg s).length, .int .i64 0], H ++ mkN (mg s)) := by
  have key := gcall_own_ex (P := Tryz.prog) (md := md) (lk := lk) (g := 65) (fn := Tryz.f65) (args := [.slice a1 l1.length l1.length, .slice a2 l2.length l2.length]) (H := H) rfl Tryz.func65 rfl
    (R := fun v N => ∃ s : List Sd, s.Perm (l1 ++ l2) ∧ s.Pairwise (fun u v => u.s ≤ v.s) ∧ v = .tuple #[.slice (mkA H (mg s)) (mg s).length (mg s).length, .int .i64 0] ∧ N = mkN (mg s)) ?_
  · obtain ⟨v, N, h1, s, h2, h3, rfl, rfl⟩ := key
    exact ⟨s, h2, h3, h1⟩
  obtain ⟨n1, hpl1, b1, _⟩ := ckS_ok k1
  obtain ⟨n2, hpl2, b2, _⟩ := ckS_ok k2
  have q1 := (lenSum_nonneg l1 hpl1).1
  have q2 := (lenSum_nonneg l2 hpl2).1
  have kc1 := fun lk H' (hE : Ext H H') => p_Check lk H' a1 l1 l1.length rfl (by omega) m1 (hE.sl hsa1)
  have kc2 := fun lk H' (hE : Ext H H') => p_Check lk H' a2 l2 l2.length rfl (by omega) m2 (hE.sl hsa2)
  rw [k1] at kc1
  rw [k2] at kc2
  have c02 : ((0 : Int) < ((2 : Nat) : Int)) = True := eq_true (by decide)
  have c12 : ((1 : Int) < ((2 : Nat) : Int)) = True := eq_true (by decide)
  have c22 : ((2 : Int) < ((2 : Nat) : Int)) = False := eq_false (by decide)
  have e01 : IntKind.i64.wrap ((0 : Int) + 1) = 1 := by decide
  have e11 : IntKind.i64.wrap ((1 : Int) + 1) = 2 := by decide
  have kc1' := kc1 H.length (H ++ [⟨[.slice a1 l1.length l1.length, .slice a2 l2.length l2.length], 1, false⟩]) (Ext.app _ _)
  simp -dsimp only [go_sem, reps]
  refine r_unroll ?_
  simp -dsimp only [go_sem, c02, kc1']
  refine r_loop_to 2 (J := fun σ H' => Ext H H' ∧ ilive H' H.length = some ⟨[.slice a1 l1.length l1.length, .slice a2 l2.length l2.length], 1, false⟩ ∧ σ 0 = .slice a1 l1.length l1.length ∧ σ 1 = .slice a2 l2.length l2.length ∧ σ 19 = .slice (some ⟨H.length, 0, none⟩) 2 2 ∧ σ 20 = .int .i64 ((2 : Nat) : Int) ∧ σ 21 = .int .i64 0 ∧ σ 6 = .int .i64 (0 + lenSum l1)) (m := fun i : Nat => l1.length - i) (I := fun (i : Nat) σ H' => i ≤ l1.length ∧ Ext H H' ∧ ilive H' H.length = some ⟨[.slice a1 l1.length l1.length, .slice a2 l2.length l2.length], 1, false⟩ ∧ σ 0 = .slice a1 l1.length l1.length ∧ σ 1 = .slice a2 l2.length l2.length ∧ σ 19 = .slice (some ⟨H.length, 0, none⟩) 2 2 ∧ σ 20 = .int .i64 ((2 : Nat) : Int) ∧ σ 21 = .int .i64 0 ∧ σ 6 = .int .i64 (0 + lenSum (l1.take i)) ∧ σ 30 = .slice a1 l1.length l1.length ∧ σ 31 = .int .i64 (l1.length : Int) ∧ σ 32 = .int .i64 (i : Int)) 0 ⟨Nat.zero_le _, Ext.app _ _, ilive_new _ _, rfl, rfl, rfl, rfl, rfl, by simp [lenSum, go_sem], rfl, rfl, rfl⟩ ?_ ?_
  · rintro i σ H' ⟨i1, hE, hc, g0, g1, g19, g20, g21, g6, g30, g31, g32⟩
    by_cases hi : i < l1.length
    · have c1 : ((i : Int) < (l1.length : Int)) = True := eq_true (by omega)
      obtain ⟨b, o, B, heq, hB, hz, hg⟩ := (hE.sl hsa1).sd i hi
      subst heq
      have hlo := hE.le
      have hst := lenSum_take l1 i hi
      have hb := lenSum_bounds l1 hpl1 i (by omega)
      have hb2 := lenSum_bounds l1 hpl1 (i + 1) (by omega)
      have e7 : IntKind.i64.wrap ((i : Int) + 1) = ((i + 1 : Nat) : Int) := by rw [w64 (by omega) (by omega)]; omega
      have e8 : IntKind.i64.wrap (0 + lenSum (l1.take i) + l1[i].n) = 0 + lenSum (l1.take (i + 1)) := by rw [w64 (by omega) (by omega), hst]; omega
      simp -dsimp only [go_sem, g6, g30, g31, g32, c1, hB, hz, hg, hi, e7, e8, hlo]
      exact next (i + 1) (by show l1.length - (i + 1) < l1.length - i; omega) ⟨hi, hE.more _, ilive_app hc, g0, g1, g19, g20, g21, rfl, g30, g31, rfl⟩
    · have c1 : ((i : Int) < (l1.length : Int)) = False := eq_false (by omega)
      have hil : i = l1.length := by omega
      rw [hil, List.take_length] at g6
      simp -dsimp only [go_sem, g31, g32, c1]
      exact mk ⟨hE, hc, g0, g1, g19, g20, g21, g6⟩
  rintro σ H1 ⟨hE1, hc1, g0, g1, g19, g20, g21, g6⟩
  simp -dsimp only [go_sem, g21, e01]
  refine r_unroll ?_
  have kc2' := kc2 H.length H1 hE1
  simp -dsimp only [go_sem, g19, g20, c12, hc1, kc2']
  refine r_loop_to 2 (J := fun σ H' => Ext H H' ∧ ilive H' H.length = some ⟨[.slice a1 l1.length l1.length, .slice a2 l2.length l2.length], 1, false⟩ ∧ σ 0 = .slice a1 l1.length l1.length ∧ σ 1 = .slice a2 l2.length l2.length ∧ σ 19 = .slice (some ⟨H.length, 0, none⟩) 2 2 ∧ σ 20 = .int .i64 ((2 : Nat) : Int) ∧ σ 21 = .int .i64 1 ∧ σ 6 = .int .i64 (0 + lenSum l1 + lenSum l2)) (m := fun i : Nat => l2.length - i) (I := fun (i : Nat) σ H' => i ≤ l2.length ∧ Ext H H' ∧ ilive H' H.length = some ⟨[.slice a1 l1.length l1.length, .slice a2 l2.length l2.length], 1, false⟩ ∧ σ 0 = .slice a1 l1.length l1.length ∧ σ 1 = .slice a2 l2.length l2.length ∧ σ 19 = .slice (some ⟨H.length, 0, none⟩) 2 2 ∧ σ 20 = .int .i64 ((2 : Nat) : Int) ∧ σ 21 = .int .i64 1 ∧ σ 6 = .int .i64 (0 + lenSum l1 + lenSum (l2.take i)) ∧ σ 30 = .slice a2 l2.length l2.length ∧ σ 31 = .int .i64 (l2.length : Int) ∧ σ 32 = .int .i64 (i : Int)) 0 ⟨Nat.zero_le _, hE1, hc1, g0, g1, g19, g20, rfl, by simp only [List.take_zero, lenSum, Int.add_zero]; exact g6, rfl, rfl, rfl⟩ ?_ ?_
  · rintro i σ H' ⟨i1, hE, hc, g0, g1, g19, g20, g21, g6, g30, g31, g32⟩
    by_cases hi : i < l2.length
    · have c1 : ((i : Int) < (l2.length : Int)) = True := eq_true (by omega)
      obtain ⟨b, o, B, heq, hB, hz, hg⟩ := (hE.sl hsa2).sd i hi
      subst heq
      have hlo := hE.le
      have hst := lenSum_take l2 i hi
      have hb := lenSum_bounds l2 hpl2 i (by omega)
      have hb2 := lenSum_bounds l2 hpl2 (i + 1) (by omega)
      have e7 : IntKind.i64.wrap ((i : Int) + 1) = ((i + 1 : Nat) : Int) := by rw [w64 (by omega) (by omega)]; omega
      have e8 : IntKind.i64.wrap (0 + lenSum l1 + lenSum (l2.take i) + l2[i].n) = 0 + lenSum l1 + lenSum (l2.take (i + 1)) := by rw [w64 (by omega) (by omega), hst]; omega
      simp -dsimp only [go_sem, g6, g30, g31, g32, c1, hB, hz, hg, hi, e7, e8, hlo]
      exact next (i + 1) (by show l2.length - (i + 1) < l2.length - i; omega) ⟨hi, hE.more _, ilive_app hc, g0, g1, g19, g20, g21, rfl, g30, g31, rfl⟩
    · have c1 : ((i : Int) < (l2.length : Int)) = False := eq_false (by omega)
      have hil : i = l2.length := by omega
      rw [hil, List.take_length] at g6
      simp -dsimp only [go_sem, g31, g32, c1]
      exact mk ⟨hE, hc, g0, g1, g19, g20, g21, g6⟩
  clear g0 g1 g19 g20 g21 g6
  rintro σ H2 ⟨hE2, hc2, g0, g1, g19, g20, g21, g6⟩
  simp -dsimp only [go_sem, g21, e11]
  refine r_unroll ?_
  have c64 : (64 < 0 + lenSum l1 + lenSum l2) = False := eq_false (by omega)
  have hc3 := ilive_new (H := H2) [.slice a1 l1.length l1.length, .slice a2 l2.length l2.length] 1
  have hE3 : Ext H (H2 ++ [⟨[.slice a1 l1.length l1.length, .slice a2 l2.length l2.length], 1, false⟩]) := hE2.more _
  have kcc := s_concat H.length _ H2.length a1 a2 l1 l2 hc3 (hE3.sl hsa1) (hE3.sl hsa2) (by omega)
  have hOr := mk_own (H2 ++ [(⟨[.slice a1 l1.length l1.length, .slice a2 l2.length l2.length], 1, false⟩ : Blk)]) (l1 ++ l2)
  have hlo3 : H.length ≤ (H2 ++ [(⟨[.slice a1 l1.length l1.length, .slice a2 l2.length l2.length], 1, false⟩ : Blk)]).length := hE3.le
  have hmem : ∀ x ∈ l1 ++ l2, SmS x ∧ 0 < x.n := fun x hx => by
    rcases List.mem_append.1 hx with h | h
    · exact ⟨m1 x h, hpl1 x h⟩
    · exact ⟨m2 x h, hpl2 x h⟩
  have hShS : ∀ x ∈ l1 ++ l2, ShS x := fun x hx => by
    have h := (hmem x hx).1
    have := bl_of_small h.2
    have := h.1
    exact ⟨by omega, by omega⟩
  obtain ⟨s, H4, ks, hE4, hO4, hperm, hsort⟩ := s_sortOwn H.length (hE3.more (mkN (l1 ++ l2))) (hOr.low hlo3) (by rw [List.length_append]; omega) (Nat.le_refl _) hShS
  have hlen : s.length = (l1 ++ l2).length := hperm.length_eq
  rw [← hlen] at ks
  rw [List.length_append] at hlen
  rw [← hlen] at kcc
  simp only [List.append_assoc, List.cons_append, List.nil_append] at ks
  simp -dsimp only [go_sem, g0, g1, g20, c22, g6, c64, reps, kcc, ks]
  generalize mkA (H2 ++ [(⟨[.slice a1 l1.length l1.length, .slice a2 l2.length l2.length], 1, false⟩ : Blk)]) (l1 ++ l2) = a at *
  clear kcc ks g0 g1 g19 g20 g21 g6 hc3 hE3 hOr hlo3 hc1 hc2 hE1 hE2 kc1' kc2' c64
  have hps : ∀ x ∈ s, 0 < x.n := fun x hx => (hmem x (hperm.mem_iff.1 hx)).2
  have hs64 : (s.length : Int) ≤ lenSum s := (lenSum_nonneg s hps).2.1
  have hls : lenSum s ≤ 64 := by rw [lenSum_perm hperm, lenSum_app]; omega
  have hne : ∀ c o e c' o' e', a = some ⟨c, o, e⟩ → (none : Option Addr) = some ⟨c', o', e'⟩ → c' ≠ c := fun c o e c' o' e' _ h => by cases h
  refine r_loop (m := fun (t : Nat × Option Addr) => s.length - t.1) (I := fun t σ H' => t.1 ≤ s.length ∧ Ext H H' ∧ Own H.length H' a s ∧ Own H.length H' t.2 (mg (s.take t.1)) ∧ (t.2 = none ↔ mg (s.take t.1) = []) ∧ (∀ c o e c' o' e', a = some ⟨c, o, e⟩ → t.2 = some ⟨c', o', e'⟩ → c' ≠ c) ∧ σ 13 = .slice t.2 (mg (s.take t.1)).length (mg (s.take t.1)).length ∧ σ 50 = .slice a s.length s.length ∧ σ 51 = .int .i64 (s.length : Int) ∧ σ 52 = .int .i64 (t.1 : Int)) (0, none) ?_ ?_
  · exact ⟨Nat.zero_le _, hE4, hO4, .inl ⟨rfl, rfl⟩, ⟨fun _ => rfl, fun _ => rfl⟩, hne, rfl, rfl, rfl, rfl⟩
  clear hE4 hO4 hne
  rintro ⟨i, ao⟩ σ H' ⟨i1, hE, hOs, hOo, hN, hne, g13, g50, g51, g52⟩
  simp only [] at i1 hOo hN hne g13 g52
  by_cases hi : i < s.length
  · have c1 : ((i : Int) < ((s.length : Nat) : Int)) = True := eq_true (by omega)
    obtain ⟨b, o, B, heq, hB, hz, hg⟩ := hOs.sl.sd i hi
    subst heq
    have hlo := hE.le
    have e7 : IntKind.i64.wrap ((i : Int) + 1) = ((i + 1 : Nat) : Int) := by rw [w64 (by omega) (by omega)]; omega
    have et : s.take (i + 1) = s.take i ++ [s[i]] := by
      rw [List.take_add_one, List.getElem?_eq_getElem hi, Option.toList_some]
    have hms := mg_sum (s.take i) (fun x hx => hps x (List.mem_of_mem_take hx))
    have hlb := lenSum_bounds s hps i (by omega)
    have hlb2 := lenSum_bounds s hps (i + 1) (by omega)
    have hst := lenSum_take s i hi
    have hstep : mg (s.take (i + 1)) = mgStep (mg (s.take i)) s[i] := by rw [et, mg_app]
    have hxn := hps s[i] (List.getElem_mem hi)
    have hol2 := hms.2.2
    rw [List.length_take] at hol2
    generalize hout : mg (s.take i) = out at *
    have hbox : (⟨[.bool (decide (s[i].s.num < 0)), .string (mkS (bytes s[i].s.num.natAbs)), .string (mkS (bytes s[i].s.den)), .int .i64 s[i].n], 4, false⟩ : Blk) = ⟨Enc.enc s[i], 4, false⟩ := rfl
    have hO3 := hOo.more [⟨[.bool (decide (s[i].s.num < 0)), .string (mkS (bytes s[i].s.num.natAbs)), .string (mkS (bytes s[i].s.den)), .int .i64 s[i].n], 4, false⟩]
    have hap := fun t t2 => ap_own (P := Tryz.prog) (lk := H.length) (t := t) (t2 := t2) hO3 (Nat.le_refl _) rfl [.bool (decide (s[i].s.num < 0)), .string (mkS (bytes s[i].s.num.natAbs)), .string (mkS (bytes s[i].s.den)), .int .i64 s[i].n] 4 rfl rfl
    have hO2 := own_ap (lo := H.length) (H := H' ++ [⟨[.bool (decide (s[i].s.num < 0)), .string (mkS (bytes s[i].s.num.natAbs)), .string (mkS (bytes s[i].s.den)), .int .i64 s[i].n], 4, false⟩]) (a := ao) (l := out) s[i] [⟨[.bool (decide (s[i].s.num < 0)), .string (mkS (bytes s[i].s.num.natAbs)), .string (mkS (bytes s[i].s.den)), .int .i64 s[i].n], 4, false⟩] (by simp; omega)
    have hE2 : Ext H (kill (H' ++ [⟨[.bool (decide (s[i].s.num < 0)), .string (mkS (bytes s[i].s.num.natAbs)), .string (mkS (bytes s[i].s.den)), .int .i64 s[i].n], 4, false⟩] ++ [⟨[.bool (decide (s[i].s.num < 0)), .string (mkS (bytes s[i].s.num.natAbs)), .string (mkS (bytes s[i].s.den)), .int .i64 s[i].n], 4, false⟩]) ao) := (hO3.more _).kill ((hE.more _).more _)
    have hOs2 := ownThru (hOs.more [⟨[.bool (decide (s[i].s.num < 0)), .string (mkS (bytes s[i].s.num.natAbs)), .string (mkS (bytes s[i].s.den)), .int .i64 s[i].n], 4, false⟩]) hne [⟨[.bool (decide (s[i].s.num < 0)), .string (mkS (bytes s[i].s.num.natAbs)), .string (mkS (bytes s[i].s.den)), .int .i64 s[i].n], 4, false⟩] [⟨cells out ++ [.bool (decide (s[i].s.num < 0)), .string (mkS (bytes s[i].s.num.natAbs)), .string (mkS (bytes s[i].s.den)), .int .i64 s[i].n], 4, false⟩]
    have hlt := ownLt hOs
    have henc : (Enc.enc s[i] : List Value) = [.bool (decide (s[i].s.num < 0)), .string (mkS (bytes s[i].s.num.natAbs)), .string (mkS (bytes s[i].s.den)), .int .i64 s[i].n] := rfl
    rw [henc] at hO2
    simp only [List.append_assoc, List.cons_append, List.nil_append, List.length_append, List.length_cons, List.length_nil, Nat.add_assoc, Nat.zero_add, Nat.reduceAdd] at hap hO2 hE2 hOs2
    have happ : mgStep out s[i] = out ++ [s[i]] → Runs Tryz.prog md H.length .skip σ H' (fun _ _ _ => True) := fun _ => r_skip trivial
    clear happ
    rcases List.eq_nil_or_concat out with hnil | ⟨pre, y, hcon⟩
    · have cl : ((out.length : Int) > 0) = False := eq_false (by rw [hnil]; simp)
      have cl' : (0 < (out.length : Int)) = False := eq_false (by rw [hnil]; simp)
      have hm1 : mg (s.take (i + 1)) = out ++ [s[i]] := by rw [hstep, hnil]; rfl
      simp -dsimp only [go_sem, g13, g50, g51, g52, c1, hB, hz, hg, hi, hlo, cl', e7, reps, hap]
      refine ⟨by omega, next (i + 1, some ⟨H'.length + 2, 0, none⟩) (by show s.length - (i + 1) < s.length - i; omega) ⟨hi, hE2.more _, hOs2, by simp only []; rw [hm1]; exact hO2, by simp only []; rw [hm1]; simp, fun c o e c' o' e' h1 h2 => by cases h2; have := hlt c o e h1; omega, ?_, g50, g51, rfl⟩⟩
      simp only [upd, hm1, List.length_append]; rfl
    · rw [List.concat_eq_append] at hcon
      have hol : out.length = pre.length + 1 := by rw [hcon]; simp
      have cl' : (0 < (out.length : Int)) = True := eq_true (by omega)
      have e1 : IntKind.i64.wrap ((out.length : Int) - 1) = (pre.length : Int) := by rw [w64 (by omega) (by omega)]; omega
      have hyn := hms.1 y (by rw [hcon]; simp)
      have hysum := (lenSum_nonneg out hms.1).2.2 y (by rw [hcon]; simp)
      obtain ⟨bo, hbo, hbo2, hBo⟩ : ∃ bo, ao = some ⟨bo, 0, none⟩ ∧ H.length ≤ bo ∧ ilive H' bo = some (lblk out) := by
        rcases hOo with ⟨_, h⟩ | h
        · rw [h] at hcon; simp at hcon
        · exact h
      subst hbo
      have hplt : pre.length < out.length := by omega
      have hBo2 : ilive (H' ++ [⟨[.bool (decide (s[i].s.num < 0)), .string (mkS (bytes s[i].s.num.natAbs)), .string (mkS (bytes s[i].s.den)), .int .i64 s[i].n], 4, false⟩]) bo = some ⟨cells out, 4, false⟩ := ilive_app hBo
      have sy : isub (cells out) (pre.length * 4) 4 = some [.bool (decide (y.s.num < 0)), .string (mkS (bytes y.s.num.natAbs)), .string (mkS (bytes y.s.den)), .int .i64 y.n] := by
        have := sd_isub out pre.length hplt
        have hy : out[pre.length] = y := by simp [hcon]
        rw [hy] at this; exact this
      have sy3 := isub3 sy
      have hq : ibin Tryz.prog .eql 39 (.agg #[.bool (decide (y.s.num < 0)), .string (mkS (bytes y.s.num.natAbs)), .string (mkS (bytes y.s.den))]) (.agg #[.bool (decide (s[i].s.num < 0)), .string (mkS (bytes s[i].s.num.natAbs)), .string (mkS (bytes s[i].s.den))]) = some (.bool (decide (y.s = s[i].s))) := vR_eql y.s s[i].s
      have hsv : ∀ v : Int, 0 < v → True := fun _ _ => trivial
      by_cases he : y.s = s[i].s
      · have ce : (y.s = s[i].s) = True := eq_true he
        have hm1 : mg (s.take (i + 1)) = pre ++ [⟨y.s, y.n + s[i].n⟩] := by
          rw [hstep, hcon]
          unfold mgStep
          simp only [List.getLast?_append, List.getLast?_singleton, Option.some_or, List.dropLast_concat]
          rw [if_pos he]
        have hlen1 : (mg (s.take (i + 1))).length = out.length := by rw [hm1, hcon]; simp
        have e2 : IntKind.i64.wrap (y.n + s[i].n) = y.n + s[i].n := by rw [w64 (by omega) (by omega)]
        have sn : (cells out)[pre.length * 4 + 3]? = some (.int .i64 y.n) := isub_get sy 3 (by omega)
        have hput : iput (cells out) (pre.length * 4 + 3) [.int .i64 (y.n + s[i].n)] = cells (mg (s.take (i + 1))) := by
          rw [hm1, hcon, cells_app, cells_app]
          have := iput_last (cells pre) (.bool (decide (y.s.num < 0))) (.string (mkS (bytes y.s.num.natAbs))) (.string (mkS (bytes y.s.den))) (.int .i64 y.n) (.int .i64 (y.n + s[i].n))
          rw [cells_len] at this
          exact this
        have hcl : (cells out).length = out.length * 4 := cells_len out
        have hbl : bo < H'.length := ilive_lt hBo
        simp -dsimp only [go_sem, g13, g50, g51, g52, c1, hB, hz, hg, hi, hlo, cl', e1, hBo2, sy3, hplt, hq, ce, sn, e2, e7, hput]
        have hne2 : ∀ c o e, some (⟨b, o, none⟩ : Addr) = some ⟨c, o, e⟩ → c ≠ bo := fun c o' e h => by
          cases h
          exact fun h => hne b o none bo 0 none rfl rfl h.symm
        refine ⟨⟨hbo2, by omega⟩, next (i + 1, some ⟨bo, 0, none⟩) (by show s.length - (i + 1) < s.length - i; omega) ⟨hi, (hE.more _).set hbo2 _, ?_, ?_, ?_, hne, ?_, g50, g51, rfl⟩⟩
        · refine Own.set (hOs.more _) ?_
          intro c o' e h
          have := hne c o' e bo 0 none h rfl
          exact fun h => this h.symm
        · refine .inr ⟨bo, rfl, hbo2, ?_⟩
          exact ilive_set_self (by rw [List.length_append]; omega) rfl
        · simp only []; rw [hm1]; simp
        · simp only [upd, hlen1]; simpa using g13
      · have ce : (y.s = s[i].s) = False := eq_false he
        have hm1 : mg (s.take (i + 1)) = out ++ [s[i]] := by
          rw [hstep, hcon]
          unfold mgStep
          simp only [List.getLast?_append, List.getLast?_singleton, Option.some_or, List.dropLast_concat]
          rw [if_neg he]
        simp -dsimp only [go_sem, g13, g50, g51, g52, c1, hB, hz, hg, hi, hlo, cl', e1, hBo2, sy3, hplt, hq, ce, e7, reps, hap]
        refine ⟨by omega, next (i + 1, some ⟨H'.length + 2, 0, none⟩) (by show s.length - (i + 1) < s.length - i; omega) ⟨hi, hE2.more _, hOs2, by simp only []; rw [hm1]; exact hO2, by simp only []; rw [hm1]; simp, fun c o e c' o' e' h1 h2 => by cases h2; have := hlt c o e h1; omega, ?_, g50, g51, rfl⟩⟩
        simp only [upd, hm1, List.length_append]; rfl
  · have c1 : ((i : Int) < ((s.length : Nat) : Int)) = False := eq_false (by omega)
    have hil : i = s.length := by omega
    subst hil
    rw [List.take_length] at hOo hN g13
    have hc := compV_mkE (e := 0) hOo rfl hN (cells_kok (fun x => rfl) _)
    simp -dsimp only [go_sem, g13, g51, g52, c1]
    exact ⟨_, _, hc, s, hperm, hsort, rfl, rfl⟩
end Gx
end
