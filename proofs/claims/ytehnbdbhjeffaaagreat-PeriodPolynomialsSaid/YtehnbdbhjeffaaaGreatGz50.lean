/- Lemmas for the row: plain facts, or contracts of functions. -/
import Derived.Test.YtehnbdbhjeffaaaGreatGz47
import Derived.Test.YtehnbdbhjeffaaaGreatGz49
set_option linter.all false
section
/- All periods: the program's. -/
set_option autoImplicit false
namespace Gx
open Go Go.Proofs
open Go.Proofs.Tryz (prog)
set_option maxRecDepth 10000
theorem perOps {body : Code} (hb : Tryz.f49.body = some body) : perR0 = q9m (fst1 body) ∧ perR1 = q9m (fst1 (snd1 body)) ∧ perR2 = q9m (fst1 (fst1 (snd1 (snd1 body)))) ∧ w2p = q9m (fst1 (snd1 (fst1 (snd1 (fst1 (snd1 (snd1 body))))))) ∧ perR5 = q9m (fst1 (snd1 (snd1 (snd1 body)))) := by
 have h : perB = body := by unfold perB; rw [hb]
 unfold perR0 perR1 perR2 w2p perR5 perF
 rw [h]
 exact ⟨rfl, rfl, rfl, rfl, rfl⟩
theorem io_of {lk : Nat} {draw : Bool} {ops : Array Oper} {σ : Env} {H : Heap} {K : Env → Heap → Prop} (h : ROps prog md lk draw ops ops.toList σ H K) : ∃ σ' H', IOs lk draw ops σ H σ' H' ∧ K σ' H' := by
 obtain ⟨n, σ', H', h1, h2⟩ := h
 exact ⟨σ', H', ⟨n, h1⟩, h2⟩
theorem rn_nil {lk : Nat} {σ : Env} {H : Heap} : RN lk σ [] H H := ⟨0, rfl⟩
theorem rn_cons {lk : Nat} {σ σ' : Env} {y : Int} {ys : List Int} {H H1 H2 : Heap} (h1 : IOs lk true w2p (upd (upd σ 13 (.int .i64 y)) 6 (.int .i64 y)) H σ' H1) (h2 : RN lk σ ys H1 H2) : RN lk σ (y :: ys) H H2 := by
 obtain ⟨n, h1⟩ := h1
 obtain ⟨m, h2⟩ := h2
 refine ⟨max n m, ?_⟩
 show (iops _ _ _ _ _ _ _ _).bind _ = _
 rw [q3i (q5k (Nat.le_max_left n m)) _ _ _ _ h1]
 exact w0f (q5k (Nat.le_max_right n m)) _ _ _ h2
theorem p_powers (lk : Nat) (H : Heap) (p n : Int) : q0c prog md lk 99 [.int .i64 p, .int .i64 n] H = some (.func (.func 153) #[] (List.toArray [.pointer (some ⟨H.length, 0, none⟩), .pointer (some ⟨H.length + 1, 0, none⟩)]), H ++ [⟨[.int .i64 p], 1, false⟩, ⟨[.int .i64 n], 1, false⟩]) := by
 refine w1s (by decide) (by decide) (by decide) Tryz.func99 rfl ?_
 simp -dsimp only [go_sem, q9q, List.all_cons, List.all_nil]
theorem q5n : RowT 62 23 := ⟨by simp only [go_sem], by simp only [go_sem], by simp only [go_sem], by simp only [go_sem], by simp only [go_sem], by simp only [go_sem]⟩
theorem SL.setr {H : Heap} {a : Option Addr} {l : List Rat} (h : SL H a l) {b : Nat} {B C : Blk} (hb : q0e H b = some B) (hB : B.sz = 1) : SL (H.set b C) a l := by
 rcases h with h | ⟨c, o, D, rfl, h2, h3, h4⟩
 ·exact .inl h
 ·refine .inr ⟨c, o, D, rfl, ?_, h3, h4⟩
  have h3 : D.sz = 3 := h3
  have : b ≠ c := by
   rintro rfl
   rw [hb] at h2
   injection h2 with h2
   rw [← h2] at h3
   omega
  rw [q0t this]; exact h2
theorem MGrow.set {lo : Nat} {H : Heap} {v : Value} {M : List (List Rat)} {a : Option Addr} {xs : List Sx} (h : MGrow lo H v M a xs) {b : Nat} {B C : Blk} (hb : q0e H b = some B) (hB : B.sz = 1) (hl : b < lo) : MGrow lo (H.set b C) v M a xs := by
 refine ⟨h.v, ?_, h.rows.1, fun i h1 h2 => ⟨(h.rows.2 i h1 h2).1, (h.rows.2 i h1 h2).2.setr hb hB⟩⟩
 rcases h.own with ho | ⟨c, h1, h2, h3⟩
 ·exact .inl ho
 ·exact .inr ⟨c, h1, h2, by rw [q0t (by omega)]; exact h3⟩
structure PerI (H H' : Heap) (p f n : Nat) (M : List (List Rat)) (v : Value) (a : Option Addr) (xs : List Sx) : Prop where
 ext : Ext H H'
 len : H.length + 5 ≤ H'.length
 b0 : q0e H' H.length = some ⟨[.int .i64 (p : Int)], 1, false⟩
 b1 : q0e H' (H.length + 1) = some ⟨[.int .i64 (f : Int)], 1, false⟩
 b2 : q0e H' (H.length + 2) = some ⟨[v], 1, false⟩
 b3 : q0e H' (H.length + 3) = some ⟨[.int .i64 (p : Int)], 1, false⟩
 b4 : q0e H' (H.length + 4) = some ⟨[.int .i64 (n : Int)], 1, false⟩
 m : MGrow (H.length + 5) H' v M a xs
theorem per_round {H H' : Heap} {p f n lk : Nat} {M : List (List Rat)} {v : Value} {a : Option Addr} {xs : List Sx} {σ : Env} (hp : p ∈ P9) (hf : f ≤ 9223372036854775807) (hlk : lk ≤ H.length) (h : PerI H H' p f n M v a xs) (y : Int) (hM : M.length ≤ 100000)
  (s2 : σ 2 = .pointer (some ⟨H.length, 0, none⟩)) (s3 : σ 3 = .pointer (some ⟨H.length + 1, 0, none⟩)) (s5 : σ 5 = .pointer (some ⟨H.length + 2, 0, none⟩)) :
  ∃ σ' H1 v1 a1 xs1, IOs lk true w2p (upd (upd σ 13 (.int .i64 y)) 6 (.int .i64 y)) H' σ' H1 ∧ PerI H H1 p f n (M ++ [perL p f y]) v1 a1 xs1 := by
 obtain ⟨hp2, hp23⟩ := q3a hp
 have key : ROps prog md lk true w2p w2p.toList (upd (upd σ 13 (.int .i64 y)) 6 (.int .i64 y)) H' (fun _ H1 => ∃ v1 a1 xs1, PerI H H1 p f n (M ++ [perL p f y]) v1 a1 xs1) := by
  obtain ⟨_, _, _, e4, _⟩ := perOps (body := _) rfl
  rw [e4]
  obtain ⟨w, N, k1, b, rfl, k2⟩ := p_period H'.length H' p f y hp2 hp23 hf
  have b0 := h.b0
  have b1 := h.b1
  have b2 := h.b2
  have hlen := h.len
  have hv := h.m.v
  have hxl := h.m.rows.1
  have hE : Ext H' (H' ++ N) := Ext.app _ _
  have hG := h.m.ext hE
  obtain ⟨r, hr⟩ : ∃ r, r = perL p f y := ⟨_, rfl⟩
  rw [← hr] at k1 k2 ⊢
  have hx5 : (H'.take (H.length + 5)).length = H.length + 5 := by rw [List.length_take]; omega
  have hE5 : Ext (H'.take (H.length + 5)) (H' ++ N) := fun c hc => by
   rw [hx5] at hc
   rw [List.getElem?_append_left (by omega), List.getElem?_take_of_lt hc]
  have hG5 : MGrow (H'.take (H.length + 5)).length (H' ++ N) v M a xs := by rw [hx5]; exact hG
  obtain ⟨hG3, hE3⟩ := hG5.app hE5 k2
  have hap := w3g (lk := lk) (t := 62) (t2 := 62) q5n q5n.e hG5.own (by rw [hx5]; omega) hxl.symm (by omega) ⟨b, r.length⟩
  obtain ⟨H3, hH3⟩ : ∃ H3, H3 = kill (H' ++ N ++ [⟨[.slice b r.length r.length], 1, false⟩]) a ++ [⟨q0g xs ++ [.slice b r.length r.length], 1, false⟩] := ⟨_, rfl⟩
  rw [← hH3] at hG3 hE3
  have hlive : ∀ c B, c < H.length + 5 → q0e H' c = some B → q0e H3 c = some B := fun c B hc hB => by
   refine hE3.live ?_
   unfold q0e at hB ⊢
   rw [List.getElem?_take_of_lt hc]; exact hB
  have hEH : Ext H H3 := fun c hc => by
   rw [hE3 c (by rw [hx5]; omega), List.getElem?_take_of_lt (by omega)]
   exact h.ext c hc
  have c2 := hlive _ _ (by omega) b2
  have hl3 : H.length + 5 ≤ H3.length := by have := hE3.le; rw [hx5] at this; exact this
  simp only [List.append_assoc, List.cons_append, List.nil_append, List.length_append] at hap hH3
  rw [← hH3] at hap
  rw [hx5] at hG3
  simp -dsimp only [q9m, fst1, snd1, go_sem, s2, s3, s5, b0, b1, b2, k1, reps, hv, hap]
  have hlk2 : lk ≤ H.length + 2 := by omega
  simp -dsimp only [go_sem, s5, c2, hlk2]
  have hset : Ext H (H3.set (H.length + 2) ⟨[.slice (some ⟨H'.length + N.length + 1, 0, none⟩) (M.length + 1) (M.length + 1)], 1, false⟩) := hEH.set (by omega) _
  have ns : ∀ c, c ≠ H.length + 2 → ∀ B C, q0e H3 c = some B → q0e (H3.set (H.length + 2) C) c = some B := fun c hc B C hB => by
   rw [q0t (fun x => hc x.symm)]; exact hB
  refine ⟨_, some ⟨H'.length + N.length + 1, 0, none⟩, xs ++ [⟨b, r.length⟩], hset, by rw [List.length_set]; exact hl3, ns _ (by omega) _ _ (hlive _ _ (by omega) b0), ns _ (by omega) _ _ (hlive _ _ (by omega) b1), q0x (q0w c2) rfl, ns _ (by omega) _ _ (hlive _ _ (by omega) h.b3), ns _ (by omega) _ _ (hlive _ _ (by omega) h.b4), ?_⟩
  have hfin := hG3.set (C := ⟨[.slice (some ⟨H'.length + N.length + 1, 0, none⟩) (M.length + 1) (M.length + 1)], 1, false⟩) c2 rfl (by omega)
  rw [List.length_append] at hfin
  exact hfin
 obtain ⟨σ', H1, h1, v1, a1, xs1, h2⟩ := io_of key
 exact ⟨σ', H1, v1, a1, xs1, h1, h2⟩
theorem per_rounds {H : Heap} {p f n lk : Nat} {σ : Env} (hp : p ∈ P9) (hf : f ≤ 9223372036854775807) (hlk : lk ≤ H.length)
  (s2 : σ 2 = .pointer (some ⟨H.length, 0, none⟩)) (s3 : σ 3 = .pointer (some ⟨H.length + 1, 0, none⟩)) (s5 : σ 5 = .pointer (some ⟨H.length + 2, 0, none⟩)) :
  ∀ (ys : List Int) (H' : Heap) (M : List (List Rat)) (v : Value) (a : Option Addr) (xs : List Sx), PerI H H' p f n M v a xs → M.length + ys.length ≤ 100000 → ∃ Hk v1 a1 xs1, RN lk σ ys H' Hk ∧ PerI H Hk p f n (M ++ ys.map (perL p f)) v1 a1 xs1
 | [], H', M, v, a, xs, h, _ => ⟨H', v, a, xs, rn_nil, by rw [List.map_nil, List.append_nil]; exact h⟩
 | y :: ys, H', M, v, a, xs, h, hl => by
  rw [List.length_cons] at hl
  obtain ⟨σ', H1, v1, a1, xs1, g1, g2⟩ := per_round hp hf hlk h y (by omega) s2 s3 s5
  obtain ⟨Hk, v2, a2, xs2, g3, g4⟩ := per_rounds hp hf hlk s2 s3 s5 ys H1 _ v1 a1 xs1 g2 (by rw [List.length_append]; simp only [List.length_cons, List.length_nil]; omega)
  refine ⟨Hk, v2, a2, xs2, rn_cons g1 g3, ?_⟩
  rw [List.map_cons]
  rw [List.append_assoc] at g4
  exact g4
def q0f (p f : Nat) : List (List Rat) := (pw (prt p) (p : Int) ((p - 1) / f) 1).map (perL p f)
theorem pw_len2 (g p : Int) : ∀ (n : Nat) (x : Int), (pw g p n x).length = n
 | 0, _ => rfl
 | n + 1, x => by rw [pw, List.length_cons, pw_len2 g p n]
theorem p_periods {p f : Nat} (hp : p ∈ P9) (hf0 : 1 ≤ f) (hf : f ≤ 9223372036854775807) (lk : Nat) (H : Heap) (hlk : lk ≤ H.length) :
  ∃ v H', q0c prog mdO lk 49 [.int .i64 (p : Int), .int .i64 (f : Int)] H = some (v, H') ∧ Ext H H' ∧ MV H' v (q0f p f) := by
 obtain ⟨hp2, hp23⟩ := q3a hp
 obtain ⟨e0, e1, e2, _, e5⟩ := perOps (body := _) rfl
 obtain ⟨n, hn⟩ : ∃ n, n = (p - 1) / f := ⟨_, rfl⟩
 have hnl : n ≤ 23 := by rw [hn]; exact Nat.le_trans (Nat.div_le_self _ _) (by omega)
 obtain ⟨σ0, H0, i0, rfl, t2, t3⟩ : ∃ σ0 H0, IOs lk false perR0 (q4j [.int .i64 (p : Int), .int .i64 (f : Int)]) H σ0 H0 ∧ H0 = H ++ [⟨[.int .i64 (p : Int)], 1, false⟩, ⟨[.int .i64 (f : Int)], 1, false⟩] ∧ σ0 2 = .pointer (some ⟨H.length, 0, none⟩) ∧ σ0 3 = .pointer (some ⟨H.length + 1, 0, none⟩) := by
  refine io_of ?_
  rw [e0]
  simp -dsimp only [q9m, fst1, snd1, go_sem]
 obtain ⟨σ1, H1, i1, rfl, u2, u3, u5⟩ : ∃ σ1 H1, IOs lk false perR1 σ0 (H ++ [⟨[.int .i64 (p : Int)], 1, false⟩, ⟨[.int .i64 (f : Int)], 1, false⟩]) σ1 H1 ∧ H1 = H ++ [⟨[.int .i64 (p : Int)], 1, false⟩, ⟨[.int .i64 (f : Int)], 1, false⟩, ⟨[.slice none 0 0], 1, false⟩] ∧ σ1 2 = .pointer (some ⟨H.length, 0, none⟩) ∧ σ1 3 = .pointer (some ⟨H.length + 1, 0, none⟩) ∧ σ1 5 = .pointer (some ⟨H.length + 2, 0, none⟩) := by
  refine io_of ?_
  rw [e1]
  simp -dsimp only [q9m, fst1, snd1, go_sem, t2, t3]
 have w1 : IntKind.i64.wrap ((p : Int) - 1) = ((p - 1 : Nat) : Int) := by rw [w64 (by omega) (by omega)]; omega
 have w2 : IntKind.i64.wrap (((p - 1 : Nat) : Int).tdiv (f : Int)) = (n : Int) := by
  have : ((p - 1 : Nat) : Int).tdiv (f : Int) = (((p - 1) / f : Nat) : Int) := rfl
  rw [this, ← hn, w64 (by omega) (by omega)]
 have hf0' : ((f : Int) ≠ 0) = True := eq_true (by omega)
 obtain ⟨σ2, H2, i2, rfl, v2, v3, v5, v12⟩ : ∃ σ2 H2, IOs lk true perR2 σ1 (H ++ [⟨[.int .i64 (p : Int)], 1, false⟩, ⟨[.int .i64 (f : Int)], 1, false⟩, ⟨[.slice none 0 0], 1, false⟩]) σ2 H2 ∧ H2 = H ++ [⟨[.int .i64 (p : Int)], 1, false⟩, ⟨[.int .i64 (f : Int)], 1, false⟩, ⟨[.slice none 0 0], 1, false⟩, ⟨[.int .i64 (p : Int)], 1, false⟩, ⟨[.int .i64 (n : Int)], 1, false⟩] ∧ σ2 2 = .pointer (some ⟨H.length, 0, none⟩) ∧ σ2 3 = .pointer (some ⟨H.length + 1, 0, none⟩) ∧ σ2 5 = .pointer (some ⟨H.length + 2, 0, none⟩) ∧ σ2 12 = .func (.func 153) #[] (List.toArray [.pointer (some ⟨H.length + 3, 0, none⟩), .pointer (some ⟨H.length + 4, 0, none⟩)]) := by
  refine io_of ?_
  rw [e2]
  simp -dsimp only [q9m, fst1, snd1, go_sem, u2, u3, u5, w1, w2, hf0', p_powers]
 obtain ⟨H2, hH2⟩ : ∃ H2, H2 = H ++ [⟨[.int .i64 (p : Int)], 1, false⟩, ⟨[.int .i64 (f : Int)], 1, false⟩, ⟨[.slice none 0 0], 1, false⟩, ⟨[.int .i64 (p : Int)], 1, false⟩, ⟨[.int .i64 (n : Int)], 1, false⟩] := ⟨_, rfl⟩
 rw [← hH2] at i2
 have hI : PerI H H2 p f n [] (.slice none 0 0) none [] := by
  rw [hH2]
  exact ⟨Ext.app _ _, by simp, by rw [q9f]; rfl, by rw [q2q]; rfl, by rw [q2q]; rfl, by rw [q2q]; rfl, by rw [q2q]; rfl, MGrow.nil⟩
 have hq : itVal (σ2 12) H2 = some ⟨H.length + 3, 0, H.length + 4, 0, (p : Int), n⟩ := by
  have b3 := hI.b3
  have b4 := hI.b4
  have l3 : q2n prog H2 3 (.pointer (some ⟨H.length + 3, 0, none⟩)) = some (.int .i64 (p : Int)) := by simp -dsimp only [go_sem, b3]
  have l4 : q2n prog H2 3 (.pointer (some ⟨H.length + 4, 0, none⟩)) = some (.int .i64 (n : Int)) := by simp -dsimp only [go_sem, b4]
  rw [v12]
  unfold itVal
  simp only [l3, l4, and_self, if_true]
  rw [if_pos (by omega)]
  simp
 have hpr : prVal (w1j prog md 0 154 [.int .i64 (p : Int)] []) = some (prt p, .i64, 0) := by
  have := p_resPR hp 0 []
  rw [q7f Tryz.func154 rfl] at this
  rw [this]; rfl
 have hrd := fun ys (hy : (ys : List Int).length ≤ 100000) => per_rounds (n := n) hp hf hlk v2 v3 v5 ys H2 [] (.slice none 0 0) none [] hI (by simpa using hy)
 obtain ⟨H3, v1, a1, xs1, r1, r2⟩ := hrd (pw (prt p) (p : Int) n 1) (by rw [pw_len2]; omega)
 obtain ⟨σ5, H5, i5, g4, rfl⟩ : ∃ σ5 H5, IOs lk false perR5 σ2 H3 σ5 H5 ∧ σ5 4 = v1 ∧ H5 = H3 := by
  refine io_of ?_
  rw [e5]
  have b2 := r2.b2
  simp -dsimp only [q9m, fst1, snd1, go_sem, v5, b2]
 have := per_pcall i0 i1 i2 hq hpr (fun ys _ hl => by
  obtain ⟨Hk, v', a', xs', q1, q2⟩ := hrd ys (by have : ys.length ≤ n := hl; omega)
  refine ⟨Hk, q1, ?_⟩
  have b3 := q2.b3
  simp -dsimp only [go_sem, b3]) r1 i5
 refine ⟨v1, H5, ?_, r2.ext, ?_⟩
 ·rw [q7f Tryz.func49 rfl, this, g4]
 ·unfold q0f
  rw [← hn]
  have hm := r2.m.mv
  rw [List.nil_append] at hm
  exact hm
def rw' (M : List (List Rat)) (i : Nat) : List Rat := M.getD i []
theorem q1o {M : List (List Rat)} {i : Nat} (h : i < M.length) : rw' M i = M[i] := by simp [rw', h]
theorem q5y (M : List (List Rat)) (i j : Nat) (r : List Rat) (h : i < M.length) : rw' (M.set i r) j = if j = i then r else rw' M j := by
 unfold rw'
 simp only [List.getD_eq_getElem?_getD, List.getElem?_set]
 by_cases hj : j = i
 ·subst hj; simp [h]
 ·rw [if_neg (fun x => hj x.symm), if_neg hj]
def Rect (M : List (List Rat)) (c : Nat) : Prop := ∀ i, i < M.length → (rw' M i).length = c
theorem Rect.set {M : List (List Rat)} {c : Nat} (h : Rect M c) (i : Nat) {r : List Rat} (hr : r.length = c) : Rect (M.set i r) c := fun j hj => by
 rw [List.length_set] at hj
 by_cases hi : i < M.length
 ·rw [q5y _ _ _ _ hi]
  split
  ·exact hr
  ·exact h j hj
 ·rw [List.set_eq_of_length_le (by omega)]; exact h j hj
def SzM (M : List (List Rat)) : Prop := ∀ i j, Sz (qf (rw' M i) j)
section
variable {lo : Nat} {H : Heap} {a : Option Addr} {xs : List Sx} {M : List (List Rat)} {t te : TypeId} {c : Nat}
theorem MOwn.rd (T : RowT t te) (h : MOwn lo H a xs M) (i : Nat) (hi : i < M.length) :
  ∃ p d, q0i prog t (.slice a M.length M.length) (.int .i64 (i : Int)) = some p ∧ (∀ H', Ext H H' → q2n prog H' te p = some (.slice d (rw' M i).length (rw' M i).length)) ∧ Own lo H d (rw' M i) ∧ (∀ hx : i < xs.length, xs[i].a = d) := by
 have hx : i < xs.length := by rw [h.len]; exact hi
 obtain ⟨p, d, h1, h2, _⟩ := q9y.ix T h.out.sl h.rows i hi
 obtain ⟨r1, r2⟩ := h.row i hx hi
 have hc : xs[i].a = d := by
  have h2 := h2 H (Ext.refl H)
  obtain ⟨b, o, B, rfl, hB, hz, hg⟩ := h.out.sl.get1 rfl i hx (.slice xs[i].a xs[i].n xs[i].n) rfl
  have hs1 := T.s
  have hg1 := T.g
  have he1 := T.e
  simp -dsimp only [go_sem, he1, hs1, hi] at h1
  injection h1 with h1
  subst h1
  simp -dsimp only [go_sem, hB, hs1, hg1, hg] at h2
  injection h2 with h2
  injection h2 with h2
 rw [hc] at r2
 rw [q1o hi]
 exact ⟨p, d, h1, h2, r2, fun _ => hc⟩
theorem MOwn.ent (T : RowT t te) (h : MOwn lo H a xs M) (i j : Nat) (hi : i < M.length) (hj : j < (rw' M i).length) :
  ∃ p d p2, q0i prog t (.slice a M.length M.length) (.int .i64 (i : Int)) = some p ∧ (∀ H', Ext H H' → q2n prog H' te p = some (.slice d (rw' M i).length (rw' M i).length)) ∧
   q0i prog te (.slice d (rw' M i).length (rw' M i).length) (.int .i64 (j : Int)) = some p2 ∧ (∀ H', Ext H H' → q2n prog H' 55 p2 = some (vR (qf (rw' M i) j))) := by
 obtain ⟨p, d, h1, h2, h3, _⟩ := h.rd T i hi
 obtain ⟨p2, h4, h5⟩ := h3.sl.ix j hj T.r
 rw [← q1y hj] at h5
 exact ⟨p, d, p2, h1, h2, h4, h5⟩
theorem MOwn.wr {lk : Nat} (T : RowT t te) (h : MOwn lo H a xs M) (i j : Nat) (hi : i < M.length) (hj : j < (rw' M i).length) (hlk : lk ≤ lo) (q : Rat) :
  ∃ p d p2 H2, q0i prog t (.slice a M.length M.length) (.int .i64 (i : Int)) = some p ∧ q2n prog H te p = some (.slice d (rw' M i).length (rw' M i).length) ∧
   q0i prog te (.slice d (rw' M i).length (rw' M i).length) (.int .i64 (j : Int)) = some p2 ∧ q3c prog lk H 55 p2 (vR q) = some H2 ∧
   MOwn lo H2 a xs (M.set i ((rw' M i).set j q)) ∧ (∀ H0 : Heap, H0.length ≤ lo → Ext H0 H → Ext H0 H2) ∧ ∃ b B, lo ≤ b ∧ b < H.length ∧ H2 = H.set b B ∧ B.sz = 3 ∧ (∀ hx : i < xs.length, xs[i].a = some ⟨b, 0, none⟩) ∧ ∀ C, q0e H b = some C → C.sz = 3 := by
 obtain ⟨p, d, h1, h2, h3, hd⟩ := h.rd T i hi
 have h2 := h2 H (Ext.refl H)
 have hx : i < xs.length := by rw [h.len]; exact hi
 obtain ⟨p2, H2, q1, _, q3, q4, q5, b, B, rfl, q6, q7⟩ := h3.putq (lk := lk) T.r j hj hlk q
 have hlb : lo ≤ b ∧ q0e H b = some (lblk (rw' M i)) := by
  rcases h3 with ⟨h4, _⟩ | ⟨b', h4, h5, h6⟩
  ·cases h4
  ·cases h4; exact ⟨h5, h6⟩
 obtain ⟨p', c', p2', H2', g1, g2, g3, _, g5, g6, g7⟩ := h.put (lk := lk) T i j hi (by rw [← q1o hi]; exact hj) hlk q
 rw [g1] at h1
 injection h1 with h1
 subst h1
 rw [← q1o hi] at g2 g3 g6
 rw [g2] at h2
 injection h2 with h2
 injection h2 with h2
 subst h2
 rw [g3] at q1
 injection q1 with q1
 subst q1
 rw [g5] at q3
 injection q3 with q3
 subst q3
 have hBs : B.sz = 3 := by
  rcases q4 with ⟨h4, _⟩ | ⟨b', h4, _, h6⟩
  ·cases h4
  ·cases h4
   rw [q7] at h6
   have := q2y h6
   rw [List.getElem?_set_self q6] at this
   injection this with this
   rw [this]; rfl
 exact ⟨p', _, p2', H2', g1, g2, g3, g5, g6, g7, b, B, hlb.1, q6, q7, hBs, hd, fun C hC => by rw [hlb.2] at hC; injection hC with hC; rw [← hC]; rfl⟩
end
def tau (i j k : Nat) : Nat := if k = j then i else if k = i then j else k
theorem tau_inj {i j k l : Nat} (h : tau i j k = tau i j l) : k = l := by
 unfold tau at h
 split at h <;> split at h <;> (try split at h) <;> (try split at h) <;> omega
theorem q7r {i j k n : Nat} (hi : i < n) (hj : j < n) (hk : k < n) : tau i j k < n := by
 unfold tau; split
 ·exact hi
 ·split
  ·exact hj
  ·exact hk
def q3r {α : Type} (l : List α) (i j : Nat) (d : α) : List α := (l.set i (l.getD j d)).set j (l.getD i d)
theorem q1e {α : Type} (l : List α) (i j : Nat) (d : α) : (q3r l i j d).length = l.length := by simp [q3r]
theorem q6n {α : Type} (l : List α) (i j : Nat) (d : α) (hi : i < l.length) (hj : j < l.length) (k : Nat) (hk : k < (q3r l i j d).length) : (q3r l i j d)[k] = l[tau i j k]'(q7r hi hj (by rw [q1e] at hk; exact hk)) := by
 have h0 : (q3r l i j d)[k]? = l[tau i j k]? := by
  unfold q3r tau
  by_cases h1 : k = j
  ·subst h1; simp [hi, hj]
  ·by_cases h2 : k = i
   ·subst h2
    rw [if_neg h1, if_pos rfl, List.getElem?_set_ne (fun x => h1 x.symm), List.getElem?_set_self hi]
    simp [hj]
   ·rw [if_neg h1, if_neg h2, List.getElem?_set_ne (fun x => h1 x.symm), List.getElem?_set_ne (fun x => h2 x.symm)]
 rw [List.getElem?_eq_getElem hk, List.getElem?_eq_getElem (q7r hi hj (by rw [q1e] at hk; exact hk))] at h0
 injection h0
theorem q6x {M : List (List Rat)} {i j : Nat} (hi : i < M.length) (hj : j < M.length) (k : Nat) (hk : k < M.length) : rw' (q3r M i j []) k = rw' M (tau i j k) := by
 rw [q1o (by rw [q1e]; exact hk), q6n _ _ _ _ hi hj, q1o (q7r hi hj hk)]
section
variable {lo : Nat} {H : Heap} {a : Option Addr} {xs : List Sx} {M : List (List Rat)} {t te : TypeId}
theorem st_sx {lk b n : Nat} (T : RowT t te) (hb : q0e H b = some (lblk xs)) (hlk : lk ≤ b) (i : Nat) (hi : i < xs.length) (x : Sx) (hn : n = xs.length) {p : Value} (hp : q0i prog t (.slice (some ⟨b, 0, none⟩) n n) (.int .i64 (i : Int)) = some p) :
  q3c prog lk H te p (.slice x.a x.n x.n) = some (H.set b (lblk (xs.set i x))) := by
 subst hn
 have he := T.e
 have hs := T.s
 simp -dsimp only [go_sem, he, hs, hi] at hp
 injection hp with hp
 subst hp
 have hput : iput (q0g xs) i [.slice x.a x.n x.n] = q0g (xs.set i x) := by
  have := w1x xs i x hi
  rw [show Enc.n Sx = 1 from rfl, Nat.mul_one] at this
  exact this
 have hcl : (q0g xs).length = xs.length := by
  have := q1l xs
  rw [show Enc.n Sx = 1 from rfl, Nat.mul_one] at this
  exact this
 simp -dsimp only [go_sem, hs, hb, q6s, hput, hlk, hcl, hi]
 rfl
theorem MOwn.swap {lk : Nat} (T : RowT t te) (h : MOwn lo H a xs M) (i j : Nat) (hi : i < M.length) (hj : j < M.length) (hlk : lk ≤ lo) :
  ∃ pi pj di dj H2 H3, q0i prog t (.slice a M.length M.length) (.int .i64 (i : Int)) = some pi ∧ q2n prog H te pi = some (.slice di (rw' M i).length (rw' M i).length) ∧
   q0i prog t (.slice a M.length M.length) (.int .i64 (j : Int)) = some pj ∧ q2n prog H te pj = some (.slice dj (rw' M j).length (rw' M j).length) ∧
   q3c prog lk H te pi (.slice dj (rw' M j).length (rw' M j).length) = some H2 ∧ q3c prog lk H2 te pj (.slice di (rw' M i).length (rw' M i).length) = some H3 ∧
   MOwn lo H3 a (q3r xs i j ⟨none, 0⟩) (q3r M i j []) ∧ (∀ H0 : Heap, H0.length ≤ lo → Ext H0 H → Ext H0 H3) ∧ H3.length = H.length ∧ ∃ b, lo ≤ b ∧ (∀ c, c ≠ b → q0e H3 c = q0e H c) ∧ a = some ⟨b, 0, none⟩ := by
 obtain ⟨pi, di, h1, h2, h3, h4⟩ := h.rd T i hi
 obtain ⟨pj, dj, g1, g2, g3, g4⟩ := h.rd T j hj
 have h2 := h2 H (Ext.refl H)
 have g2 := g2 H (Ext.refl H)
 have hxi : i < xs.length := by rw [h.len]; exact hi
 have hxj : j < xs.length := by rw [h.len]; exact hj
 have h4 := h4 hxi
 have g4 := g4 hxj
 have ni := (h.row i hxi hi).1
 have nj := (h.row j hxj hj).1
 rw [← q1o hi] at ni
 rw [← q1o hj] at nj
 rcases h.out with ⟨_, h0⟩ | ⟨b, rfl, hb1, hb2⟩
 ·rw [h0] at hxi; simp at hxi
 ·have e1 := st_sx (lk := lk) T hb2 (by omega) i hxi ⟨dj, (rw' M j).length⟩ h.len.symm h1
  have hb3 : q0e (H.set b (lblk (xs.set i ⟨dj, (rw' M j).length⟩))) b = some (lblk (xs.set i ⟨dj, (rw' M j).length⟩)) := q0x (q0w hb2) rfl
  have e2 := st_sx (lk := lk) T hb3 (by omega) j (by rw [List.length_set]; exact hxj) ⟨di, (rw' M i).length⟩ (by rw [List.length_set]; exact h.len.symm) g1
  have ex : (xs.set i ⟨dj, (rw' M j).length⟩).set j ⟨di, (rw' M i).length⟩ = q3r xs i j ⟨none, 0⟩ := by
   unfold q3r
   have q1 : xs.getD i ⟨none, 0⟩ = ⟨di, (rw' M i).length⟩ := by
    rw [List.getD_eq_getElem?_getD, List.getElem?_eq_getElem hxi, Option.getD_some, ← h4, ← ni]
   have q2 : xs.getD j ⟨none, 0⟩ = ⟨dj, (rw' M j).length⟩ := by
    rw [List.getD_eq_getElem?_getD, List.getElem?_eq_getElem hxj, Option.getD_some, ← g4, ← nj]
   rw [q1, q2]
  rw [ex, List.set_set] at e2
  have hlive : ∀ c, c ≠ b → q0e (H.set b (lblk (q3r xs i j ⟨none, 0⟩))) c = q0e H c := fun c hc => q0t fun x => hc x.symm
  refine ⟨pi, pj, di, dj, _, _, h1, h2, g1, g2, e1, e2, ⟨.inr ⟨b, rfl, hb1, q0x (q0w hb2) rfl⟩, by rw [q1e, q1e]; exact h.len, fun k k1 k2 => ?_, fun k l k1 k2 hkl he => ?_⟩, fun H0 hl hE => hE.set (by omega) _, by rw [List.length_set], b, hb1, hlive, rfl⟩
  ·rw [q6n _ _ _ _ hxi hxj, q6n _ _ _ _ hi hj]
   obtain ⟨r1, r2⟩ := h.row (tau i j k) (q7r hxi hxj (by rw [q1e] at k1; exact k1)) (q7r hi hj (by rw [q1e] at k2; exact k2))
   refine ⟨r1, ?_⟩
   rcases r2 with r2 | ⟨c, r3, r4, r5⟩
   ·exact .inl r2
   ·refine .inr ⟨c, r3, r4, ?_⟩
    rw [hlive c]
    ·exact r5
    ·rintro rfl
     rw [hb2] at r5
     injection r5 with r5
     have h6 : (lblk xs).sz = (lblk (M[tau i j k]'(q7r hi hj (by rw [q1e] at k2; exact k2)))).sz := by rw [r5]
     have h7 : (1 : Nat) = 3 := h6
     omega
  ·rw [q6n _ _ _ _ hxi hxj] at he ⊢
   rw [q6n _ _ _ _ hxi hxj] at he
   exact h.ne _ _ _ _ (fun x => hkl (tau_inj x)) he
end
def fnz (M : List (List Rat)) (k : Nat) : Nat → Nat → Nat
 | 0, i => i
 | m + 1, i => if qf (rw' M i) k = 0 then fnz M k m (i + 1) else i
theorem q9s (M : List (List Rat)) (k : Nat) : ∀ m i, i ≤ fnz M k m i ∧ fnz M k m i ≤ i + m
 | 0, i => ⟨Nat.le_refl _, Nat.le_refl _⟩
 | m + 1, i => by
  have := q9s M k m (i + 1)
  unfold fnz
  split <;> omega
def sclU (r : List Rat) (c : Rat) (j : Nat) : List Rat := mapR (fun l => if l < j then qf r l * c else qf r l) r.length
def elU (r p : List Rat) (d : Rat) (j : Nat) : List Rat := mapR (fun l => if l < j then qf r l - d * qf p l else qf r l) r.length
theorem mapR_qf (r : List Rat) : mapR (qf r) r.length = r := List.ext_getElem (q0d _ _) fun i h1 h2 => by rw [q1u, q1y h2]
theorem sclU_zero (r : List Rat) (c : Rat) : sclU r c 0 = r := by
 unfold sclU
 rw [q1w (G := qf r) fun i _ => by rw [if_neg (by omega)], mapR_qf]
theorem elU_zero (r p : List Rat) (d : Rat) : elU r p d 0 = r := by
 unfold elU
 rw [q1w (G := qf r) fun i _ => by rw [if_neg (by omega)], mapR_qf]
theorem sclU_set (r : List Rat) (c : Rat) (j : Nat) : (sclU r c j).set j (qf r j * c) = sclU r c (j + 1) := by
 unfold sclU
 rw [q9d]
 refine q1w fun l _ => ?_
 by_cases h : l = j
 ·subst h; rw [if_pos rfl, if_pos (by omega)]
 ·rw [if_neg h]
  by_cases h2 : l < j
  ·rw [if_pos h2, if_pos (by omega)]
  ·rw [if_neg h2, if_neg (by omega)]
theorem elU_set (r p : List Rat) (d : Rat) (j : Nat) : (elU r p d j).set j (qf r j - d * qf p j) = elU r p d (j + 1) := by
 unfold elU
 rw [q9d]
 refine q1w fun l _ => ?_
 by_cases h : l = j
 ·subst h; rw [if_pos rfl, if_pos (by omega)]
 ·rw [if_neg h]
  by_cases h2 : l < j
  ·rw [if_pos h2, if_pos (by omega)]
  ·rw [if_neg h2, if_neg (by omega)]
theorem w1f (r : List Rat) (c : Rat) (j : Nat) : (sclU r c j).length = r.length := q0d _ _
theorem elU_len (r p : List Rat) (d : Rat) (j : Nat) : (elU r p d j).length = r.length := q0d _ _
theorem sclU_get (r : List Rat) (c : Rat) (j : Nat) : qf (sclU r c j) j = qf r j := by
 unfold sclU
 rw [q5b]
 split
 ·rw [if_neg (by omega)]
 ·rw [q2a (by omega)]
theorem elU_get (r p : List Rat) (d : Rat) (j : Nat) : qf (elU r p d j) j = qf r j := by
 unfold elU
 rw [q5b]
 split
 ·rw [if_neg (by omega)]
 ·rw [q2a (by omega)]
def scl (r : List Rat) (c : Rat) : List Rat := sclU r c r.length
def elm (r p : List Rat) (d : Rat) : List Rat := elU r p d r.length
def elR (M : List (List Rat)) (top k R : Nat) : List (List Rat) := (List.range M.length).map fun r => if r < R ∧ r ≠ top ∧ qf (rw' M r) k ≠ 0 then elm (rw' M r) (rw' M top) (qf (rw' M r) k) else rw' M r
theorem q2h (M : List (List Rat)) (top k R : Nat) : (elR M top k R).length = M.length := by simp [elR]
theorem q5e (M : List (List Rat)) (top k R r : Nat) (h : r < M.length) : rw' (elR M top k R) r = if r < R ∧ r ≠ top ∧ qf (rw' M r) k ≠ 0 then elm (rw' M r) (rw' M top) (qf (rw' M r) k) else rw' M r := by
 rw [q1o (by rw [q2h]; exact h)]; simp [elR]
theorem q9i {M N : List (List Rat)} (hl : M.length = N.length) (h : ∀ i, i < M.length → rw' M i = rw' N i) : M = N :=
 List.ext_getElem hl fun i h1 h2 => by rw [← q1o h1, ← q1o h2]; exact h i h1
theorem elR_zero (M : List (List Rat)) (top k : Nat) : elR M top k 0 = M := q9i (q2h _ _ _ _) fun i hi => by
 rw [q2h] at hi
 rw [q5e _ _ _ _ _ hi, if_neg (by omega)]
theorem elR_skip (M : List (List Rat)) (top k R : Nat) (h : R = top ∨ qf (rw' M R) k = 0) : elR M top k (R + 1) = elR M top k R := q9i (by rw [q2h, q2h]) fun i hi => by
 rw [q2h] at hi
 rw [q5e _ _ _ _ _ hi, q5e _ _ _ _ _ hi]
 by_cases hR : i = R
 ·subst hR
  rw [if_neg, if_neg (by omega)]
  rintro ⟨_, h1, h2⟩
  rcases h with h | h <;> contradiction
 ·by_cases h2 : i < R ∧ i ≠ top ∧ qf (rw' M i) k ≠ 0
  ·rw [if_pos h2, if_pos ⟨by omega, h2.2⟩]
  ·rw [if_neg h2, if_neg (fun x => h2 ⟨by omega, x.2⟩)]
theorem elR_next (M : List (List Rat)) (top k R : Nat) (hR : R < M.length) (h1 : R ≠ top) (h2 : qf (rw' M R) k ≠ 0) : (elR M top k R).set R (elm (rw' M R) (rw' M top) (qf (rw' M R) k)) = elR M top k (R + 1) := by
 refine q9i (by rw [List.length_set, q2h, q2h]) fun i hi => ?_
 rw [List.length_set, q2h] at hi
 rw [q5y _ _ _ _ (by rw [q2h]; exact hR), q5e _ _ _ _ _ hi, q5e _ _ _ _ _ hi]
 by_cases hiR : i = R
 ·subst hiR
  rw [if_pos rfl, if_pos ⟨by omega, h1, h2⟩]
 ·rw [if_neg hiR]
  by_cases h3 : i < R ∧ i ≠ top ∧ qf (rw' M i) k ≠ 0
  ·rw [if_pos h3, if_pos ⟨by omega, h3.2⟩]
  ·rw [if_neg h3, if_neg (fun x => h3 ⟨by omega, x.2⟩)]
def rdM (M : List (List Rat)) (top i k : Nat) : List (List Rat) := (q3r M top i []).set top (scl (rw' (q3r M top i []) top) (qf (rw' (q3r M top i []) top) k)⁻¹)
def q5o (s : List (List Rat) × List Nat) (k : Nat) : List (List Rat) × List Nat :=
 if s.2.length < s.1.length then
  if fnz s.1 k (s.1.length - s.2.length) s.2.length = s.1.length then s
  else (elR (rdM s.1 s.2.length (fnz s.1 k (s.1.length - s.2.length) s.2.length) k) s.2.length k s.1.length, s.2 ++ [k])
 else s
def rdS (M : List (List Rat)) : Nat → List (List Rat) × List Nat
 | 0 => (M, [])
 | k + 1 => q5o (rdS M k) k
theorem w2j (M : List (List Rat)) (top i k : Nat) : (rdM M top i k).length = M.length := by unfold rdM; rw [List.length_set, q1e]
theorem q7y (M : List (List Rat)) : ∀ k, (rdS M k).1.length = M.length
 | 0 => rfl
 | k + 1 => by
  have ih := q7y M k
  unfold rdS q5o
  split
  ·split
   ·exact ih
   ·show (elR _ _ _ _).length = _
    rw [q2h, w2j, ih]
  ·exact ih
theorem rdS_piv (M : List (List Rat)) : ∀ k, (rdS M k).2.length ≤ k ∧ (rdS M k).2.length ≤ M.length
 | 0 => ⟨Nat.le_refl _, Nat.zero_le _⟩
 | k + 1 => by
  have ih := rdS_piv M k
  have hl := q7y M k
  unfold rdS q5o
  split
  ·rename_i h
   split
   ·omega
   ·show ((rdS M k).2 ++ [k]).length ≤ _ ∧ _
    rw [List.length_append]; simp only [List.length_cons, List.length_nil]; omega
  ·omega
theorem Rect.swap {M : List (List Rat)} {c : Nat} (h : Rect M c) (i j : Nat) (hi : i < M.length) (hj : j < M.length) : Rect (q3r M i j []) c := fun k hk => by
 rw [q1e] at hk
 rw [q6x hi hj k hk]
 exact h _ (q7r hi hj hk)
theorem Rect.rdM {M : List (List Rat)} {c : Nat} (h : Rect M c) (top i k : Nat) (ht : top < M.length) (hi : i < M.length) : Rect (rdM M top i k) c := by
 refine (h.swap top i ht hi).set top ?_
 unfold scl
 rw [w1f]
 exact h.swap top i ht hi top (by rw [q1e]; exact ht)
theorem Rect.elR {M : List (List Rat)} {c : Nat} (h : Rect M c) (top k R : Nat) : Rect (elR M top k R) c := fun i hi => by
 rw [q2h] at hi
 rw [q5e _ _ _ _ _ hi]
 split
 ·unfold elm; rw [elU_len]; exact h i hi
 ·exact h i hi
theorem w4f {M : List (List Rat)} {c : Nat} (h : Rect M c) : ∀ k, Rect (rdS M k).1 c
 | 0 => h
 | k + 1 => by
  have ih := w4f h k
  have hl := q7y M k
  have hf := q9s (rdS M k).1 k ((rdS M k).1.length - (rdS M k).2.length) (rdS M k).2.length
  unfold rdS q5o
  split
  ·rename_i h1
   split
   ·exact ih
   ·exact (ih.rdM _ _ _ h1 (by omega)).elR _ _ _
  ·exact ih
structure RdOk (M : List (List Rat)) (width : Nat) : Prop where
 s : ∀ k, k ≤ width → SzM (rdS M k).1
 m : ∀ k, k < width → (rdS M k).2.length < M.length → fnz (rdS M k).1 k (M.length - (rdS M k).2.length) (rdS M k).2.length < M.length → SzM (rdM (rdS M k).1 (rdS M k).2.length (fnz (rdS M k).1 k (M.length - (rdS M k).2.length) (rdS M k).2.length) k) ∧
  ∀ i j, Sz (qf (rw' (rdM (rdS M k).1 (rdS M k).2.length (fnz (rdS M k).1 k (M.length - (rdS M k).2.length) (rdS M k).2.length) k) i) k * qf (rw' (rdM (rdS M k).1 (rdS M k).2.length (fnz (rdS M k).1 k (M.length - (rdS M k).2.length) (rdS M k).2.length) k) (rdS M k).2.length) j)
theorem s_cloneR {H : Heap} {v : Value} {f : List Rat} (hv : LV H v f) (lf : f.length ≤ 1000000) : q0m 163 [v] H (fun v H' => OV H.length H' v f) := by
 obtain ⟨a, rfl, hs⟩ := hv
 refine q1n (by decide) Tryz.func163 rfl ?_
 intro lk hlk
 cases a with
 | none =>
  have := hs.none_iff
  subst this
  simp -dsimp only [go_sem, isNone_none]
  exact ⟨Ext.refl _, OV.nil⟩
 | some A =>
  have hO : OwnP H.length (H ++ [⟨[], 3, false⟩]) (some ⟨H.length, 0, none⟩) ([] : List Rat) := .inr ⟨_, _, rfl, Nat.le_refl _, q0j _ _, rfl, rfl, Nat.zero_le _⟩
  obtain ⟨a', H2, q1, q2, q3, _⟩ := app_rats (lk := lk) (t := 22) (t2 := 22) q0o q0o (Ext.app H _) hO ((Ext.app H [⟨[], 3, false⟩]).sl hs) hlk (by simp only [List.length_nil]; omega)
  rw [List.length_nil, Nat.zero_add] at q1
  simp -dsimp only [go_sem, isNone_some, reps, q1]
  exact ⟨q2, a', rfl, q3⟩
theorem q4t : RowT 27 22 := ⟨by simp only [go_sem], by simp only [go_sem], by simp only [go_sem], by simp only [go_sem], by simp only [go_sem], by simp only [go_sem]⟩
def misN (P : List Nat) : List MI := mis (P.map fun k : Nat => (k : Int))
theorem q4o (P : List Nat) : (misN P).length = P.length := by simp [misN, mis]
theorem misN_app (P : List Nat) (k : Nat) : misN (P ++ [k]) = misN P ++ [⟨(k : Int)⟩] := by simp [misN, mis]
structure RIn (H0 H : Heap) (L : Nat) (a : Option Addr) (xs : List Sx) (M : List (List Rat)) (pv : Option Addr) (P : List Nat) : Prop where
 ext : Ext H0 H
 own : MOwn H0.length H a xs M
 b1 : ∀ b o e, a = some ⟨b, o, e⟩ → b < L
 b2 : ∀ i (h : i < xs.length) b o e, xs[i].a = some ⟨b, o, e⟩ → b < L
 piv : Own L H pv (misN P)
 l0 : H0.length ≤ L
 l1 : L ≤ H.length
section
variable {H0 H : Heap} {L : Nat} {a pv : Option Addr} {xs : List Sx} {M : List (List Rat)} {P : List Nat}
theorem RIn.more (h : RIn H0 H L a xs M pv P) (N : List Blk) : RIn H0 (H ++ N) L a xs M pv P :=
 ⟨h.ext.more _, h.own.ext (Ext.app _ _), h.b1, h.b2, h.piv.more _, h.l0, by have := h.l1; rw [List.length_append]; omega⟩
theorem own_below {α : Type} [Enc α] {L : Nat} {H : Heap} {c : Option Addr} {l : List α} (h : Own L H c l) {b : Nat} (hb : b < L) (B : Blk) : Own L (H.set b B) c l := by
 rcases h with h | ⟨d, h1, h2, h3⟩
 ·exact .inl h
 ·exact .inr ⟨d, h1, h2, by rw [q0t (by omega)]; exact h3⟩
theorem RIn.wr {lk : Nat} {t te : TypeId} (T : RowT t te) (h : RIn H0 H L a xs M pv P) (i j : Nat) (hi : i < M.length) (hj : j < (rw' M i).length) (hlk : lk ≤ H0.length) (q : Rat) :
  ∃ p d p2 H2, q0i prog t (.slice a M.length M.length) (.int .i64 (i : Int)) = some p ∧ q2n prog H te p = some (.slice d (rw' M i).length (rw' M i).length) ∧
   q0i prog te (.slice d (rw' M i).length (rw' M i).length) (.int .i64 (j : Int)) = some p2 ∧ q3c prog lk H 55 p2 (vR q) = some H2 ∧
   RIn H0 H2 L a xs (M.set i ((rw' M i).set j q)) pv P ∧ H2.length = H.length ∧ ∀ c, L ≤ c → q0e H2 c = q0e H c := by
 obtain ⟨p, d, p2, H2, q1, q2, q3, q4, q5, q6, b, B, q7, q8, q9, _, q11, _⟩ := h.own.wr (lk := lk) T i j hi hj hlk q
 have hx : i < xs.length := by rw [h.own.len]; exact hi
 have hb := h.b2 i hx b 0 none (q11 hx)
 refine ⟨p, d, p2, H2, q1, q2, q3, q4, ⟨q6 H0 (Nat.le_refl _) h.ext, q5, h.b1, h.b2, ?_, h.l0, ?_⟩, by rw [q9, List.length_set], fun c hc => ?_⟩
 ·rw [q9]; exact own_below h.piv hb B
 ·rw [q9, List.length_set]; exact h.l1
 ·rw [q9, q0t (by omega)]
theorem RIn.swap {lk : Nat} {t te : TypeId} (T : RowT t te) (h : RIn H0 H L a xs M pv P) (i j : Nat) (hi : i < M.length) (hj : j < M.length) (hlk : lk ≤ H0.length) :
  ∃ pi pj di dj H2 H3, q0i prog t (.slice a M.length M.length) (.int .i64 (i : Int)) = some pi ∧ q2n prog H te pi = some (.slice di (rw' M i).length (rw' M i).length) ∧
   q0i prog t (.slice a M.length M.length) (.int .i64 (j : Int)) = some pj ∧ q2n prog H te pj = some (.slice dj (rw' M j).length (rw' M j).length) ∧
   q3c prog lk H te pi (.slice dj (rw' M j).length (rw' M j).length) = some H2 ∧ q3c prog lk H2 te pj (.slice di (rw' M i).length (rw' M i).length) = some H3 ∧
   RIn H0 H3 L a (q3r xs i j ⟨none, 0⟩) (q3r M i j []) pv P ∧ H3.length = H.length := by
 obtain ⟨pi, pj, di, dj, H2, H3, q1, q2, q3, q4, q5, q6, q7, q8, q9, b, q10, q11, q12⟩ := h.own.swap (lk := lk) T i j hi hj hlk
 have hb := h.b1 b 0 none q12
 have hxi : i < xs.length := by rw [h.own.len]; exact hi
 have hxj : j < xs.length := by rw [h.own.len]; exact hj
 refine ⟨pi, pj, di, dj, H2, H3, q1, q2, q3, q4, q5, q6, ⟨q8 H0 (Nat.le_refl _) h.ext, q7, h.b1, fun k hk b' o e hb' => ?_, ?_, h.l0, by rw [q9]; exact h.l1⟩, q9⟩
 ·rw [q6n _ _ _ _ hxi hxj] at hb'
  exact h.b2 _ _ b' o e hb'
 ·rcases h.piv with hp | ⟨c, h1, h2, h3⟩
  ·exact .inl hp
  ·exact .inr ⟨c, h1, h2, by rw [q11 c (by omega)]; exact h3⟩
end
theorem tau_l (i j : Nat) : tau i j i = j := by
 unfold tau
 by_cases h : i = j
 ·rw [if_pos h, h]
 ·rw [if_neg h, if_pos rfl]
theorem RIn.keep {H0 H H2 : Heap} {L : Nat} {a pv pv' : Option Addr} {xs : List Sx} {M : List (List Rat)} {P P' : List Nat} (h : RIn H0 H L a xs M pv P) (hE : Ext H0 H2) (hT : Ext (H.take L) H2) (hp : Own L H2 pv' (misN P')) : RIn H0 H2 L a xs M pv' P' := by
 have hl := h.l1
 have hTL : (H.take L).length = L := by rw [List.length_take, Nat.min_eq_left hl]
 have hlive : ∀ b, b < L → q0e H2 b = q0e H b := fun b hb => by
  unfold q0e
  rw [hT b (by rw [hTL]; exact hb), List.getElem?_take_of_lt hb]
 refine ⟨hE, ⟨?_, h.own.len, fun i h1 h2 => ⟨(h.own.row i h1 h2).1, ?_⟩, h.own.ne⟩, h.b1, h.b2, hp, h.l0, by have := hT.le; rw [hTL] at this; exact this⟩
 ·rcases h.own.out with ho | ⟨b, h1, h2, h3⟩
  ·exact .inl ho
  ·exact .inr ⟨b, h1, h2, by rw [hlive b (h.b1 b 0 none h1)]; exact h3⟩
 ·rcases (h.own.row i h1 h2).2 with ho | ⟨b, g1, g2, g3⟩
  ·exact .inl ho
  ·exact .inr ⟨b, g1, g2, by rw [hlive b (h.b2 i h1 b 0 none g1)]; exact g3⟩
theorem set_rw {M : List (List Rat)} {i : Nat} (h : i < M.length) : M.set i (rw' M i) = M := by rw [q1o h, List.set_getElem_self]
theorem q2g {α : Type} {P : Program} {md : Md} {lk : Nat} {σ : Env} {H : Heap} {Q : Ex → Env → Heap → Prop} (m : α → Nat) (I : α → Env → Heap → Prop) {c : Code} (a0 : α) (h0 : I a0 σ H) (hs : ∀ a σ H, I a σ H → Runs P md lk c σ H (Round m I a Q)) : Runs P md lk (.loop c) σ H Q := q0h m I a0 h0 hs
theorem p_Reduce {H : Heap} {v : Value} {M : List (List Rat)} {c width : Nat} (hv : MV H v M) (hR : Rect M c) (hw : width ≤ c) (hc : c ≤ 100000) (hM : M.length ≤ 100000) (ok : RdOk M width) :
  q0m 105 [v, .int .i64 (width : Int)] H (fun v H' => ∃ w u, v = .tuple #[w, u] ∧ OM H.length H' w (rdS M width).1 ∧ LV H' u (misN (rdS M width).2)) := by
 refine q1n (by decide) Tryz.func105 rfl ?_
 intro lk hlk
 obtain ⟨av, rfl⟩ := hv.is
 simp -dsimp only [go_sem]
 refine q0h (m := fun (s : Nat × Option Addr × List Sx) => M.length - s.1) (I := fun s σ H' => s.1 ≤ M.length ∧ Ext H H' ∧ MOwn H.length H' s.2.1 s.2.2 (M.take s.1) ∧ σ 1 = .int .i64 (width : Int) ∧ σ 18 = .slice av M.length M.length ∧ σ 19 = .int .i64 (M.length : Int) ∧ σ 6 = .slice s.2.1 s.1 s.1 ∧ σ 20 = .int .i64 (s.1 : Int)) (0, none, []) ⟨Nat.zero_le _, Ext.refl _, MOwn.nil, rfl, rfl, rfl, rfl, rfl⟩ ?_
 rintro ⟨i, a, xs⟩ σ H' ⟨h1, hE, hMo, s1, s18, s19, s6, s20⟩
 simp only at h1 hMo s6 s20
 have hlo := hE.le
 have htl : (M.take i).length = i := by rw [List.length_take]; omega
 by_cases hi : i < M.length
 ·have f1 := ltI hi
  have e7 := q1m hi (by omega)
  obtain ⟨p, d, q1, q2, q3⟩ := hv.ix q4t i hi
  have q2 := q2 H' hE
  have hri := hR i hi
  rw [q1o hi] at hri
  simp -dsimp only [go_sem, s1, s18, s19, s6, s20, f1, q1, q2]
  refine ob_y (s_cloneR (f := M[i]) ⟨d, rfl, hE.sl q3⟩ (by omega)) (by omega) ?_
  rintro v1 H2 hE2 ⟨e, rfl, hO⟩
  obtain ⟨hM2, hE3⟩ := hMo.app hE hE2 hO
  have hxl := hMo.len
  rw [htl] at hxl
  have hap := w3g (lk := lk) (t := 27) (t2 := 27) q4t q4t.e ((hMo.ext hE2).out) (by omega) hxl.symm (by omega) ⟨e, M[i].length⟩
  have htk : M.take i ++ [M[i]] = M.take (i + 1) := by rw [List.take_add_one, List.getElem?_eq_getElem hi]; rfl
  rw [htk] at hM2
  simp -dsimp only [go_sem, s1, s18, s19, s6, s20, reps, hap, e7]
  exact next (i + 1, _, _) (by show M.length - (i + 1) < M.length - i; omega) ⟨hi, hE3, hM2, s1, s18, s19, rfl, rfl⟩
 ·have hi' : i = M.length := by omega
  subst hi'
  have f1 := nltI M.length
  rw [List.take_length] at hMo
  simp -dsimp only [go_sem, s1, s18, s19, s6, s20, f1]
  obtain ⟨L, hL⟩ : ∃ L, L = H'.length := ⟨_, rfl⟩
  have hbnd1 : ∀ b o e, a = some ⟨b, o, e⟩ → b < L := fun b o e h => by
   rcases hMo.out with ⟨h1, _⟩ | ⟨b', h1, _, h3⟩
   ·rw [h1] at h; cases h
   ·rw [h1] at h; cases h; rw [hL]; exact q0w h3
  have hbnd2 : ∀ i (h : i < xs.length) b o e, xs[i].a = some ⟨b, o, e⟩ → b < L := fun i hi b o e h => by
   rcases (hMo.row i hi (by rw [← hMo.len]; exact hi)).2 with ⟨h1, _⟩ | ⟨b', h1, _, h3⟩
   ·rw [h1] at h; cases h
   ·rw [h1] at h; cases h; rw [hL]; exact q0w h3
  have hRI : RIn H H' L a xs (rdS M 0).1 none (rdS M 0).2 := ⟨hE, hMo, hbnd1, hbnd2, Own.nil, by omega, by omega⟩
  clear hbnd1 hbnd2 hMo
  refine q2g (m := fun (s : Nat × List Sx × Option Addr) => width - s.1) (I := fun s σ H' => s.1 ≤ width ∧ RIn H H' L a s.2.1 (rdS M s.1).1 s.2.2 (rdS M s.1).2 ∧ σ 1 = .int .i64 (width : Int) ∧ σ 6 = .slice a M.length M.length ∧ σ 9 = .slice s.2.2 (rdS M s.1).2.length (rdS M s.1).2.length ∧ σ 10 = .int .i64 (s.1 : Int)) (0, xs, none) ⟨Nat.zero_le _, hRI, s1, s6, rfl, rfl⟩ ?_
  clear hRI s1 s6 s18 s19 s20 hE hL hlo xs H' σ
  rintro ⟨k, xs, pv⟩ σ H' ⟨g1, hI, s1, s6, s9, s10⟩
  simp only at g1 hI s9 s10
  have hml := q7y M k
  have hpl := rdS_piv M k
  have hrect := w4f hR k
  have hszk := ok.s k g1
  have hokm := ok.m k
  have hst : rdS M (k + 1) = q5o (rdS M k) k := rfl
  unfold q5o at hst
  generalize hS : rdS M k = S at hI s9 hml hpl hrect hszk hokm hst
  obtain ⟨A, P⟩ := S
  simp only at hI s9 hml hpl hrect hszk hokm hst
  have hlo : lk ≤ H'.length := by have := hI.l0; have := hI.l1; omega
  by_cases hk : k < width
  ·have f2 := ltI hk
   by_cases hP : P.length < M.length
   ·have f3 := ltI hP
    rw [if_pos (by omega)] at hst
    obtain ⟨top, htop⟩ : ∃ top, top = P.length := ⟨_, rfl⟩
    rw [← htop] at s9 f3 hst hokm hP hpl
    have e10 := q1m hk (by omega)
    have eA : A.length = M.length := hml
    have hA6 : σ 6 = .slice a A.length A.length := by rw [eA]; exact s6
    rw [← eA] at f3
    simp -dsimp only [go_sem, s1, hA6, s9, s10, f2, f3]
    refine q0h (m := fun (i : Nat) => A.length - i) (I := fun i σ H2 => top ≤ i ∧ i ≤ A.length ∧ H2 = H' ∧ fnz A k (A.length - i) i = fnz A k (A.length - top) top ∧ σ 1 = .int .i64 (width : Int) ∧ σ 6 = .slice a A.length A.length ∧ σ 9 = .slice pv top top ∧ σ 10 = .int .i64 (k : Int) ∧ σ 11 = .int .i64 (top : Int) ∧ σ 12 = .int .i64 (i : Int)) top ⟨Nat.le_refl _, by omega, rfl, rfl, s1, hA6, s9, s10, rfl, rfl⟩ ?_
    clear s1 s6 hA6 s9 s10 σ
    rintro i σ H2 ⟨j1, j2, rfl, j3, s1, s6, s9, s10, s11, s12⟩
    by_cases hi : i < A.length
    ·have f4 := ltI hi
     have e11 := q1m hi (by omega)
     have hrow : (rw' A i).length = c := hrect i hi
     obtain ⟨q, d, q2, x1, x2, x3, x4⟩ := hI.own.ent q4t i k hi (by rw [hrow]; omega)
     have x2 := x2 H2 (Ext.refl _)
     have x4 := x4 H2 (Ext.refl _)
     have kz := fun lk H' => q7g lk H' (qf (rw' A i) k)
     obtain ⟨m, hm⟩ : ∃ m, A.length - i = m + 1 := ⟨A.length - i - 1, by omega⟩
     rw [hm, fnz] at j3
     by_cases hz : qf (rw' A i) k = 0
     ·rw [if_pos hz] at j3
      rw [decide_eq_true hz] at kz
      simp -dsimp only [go_sem, s1, s6, s9, s10, s11, s12, f4, x1, x2, x3, x4, kz, e11]
      exact next (i + 1) (by show A.length - (i + 1) < A.length - i; omega) ⟨by omega, hi, rfl, by rw [← j3]; congr 1; omega, s1, s6, s9, s10, s11, rfl⟩
     ·rw [if_neg hz] at j3
      rw [decide_eq_false hz] at kz
      have f5 : ((i : Int) = (A.length : Int)) = False := eq_false (by omega)
      rw [← j3, if_neg (show ¬ i = A.length by omega)] at hst
      have hok2 := hokm hk hP
      rw [← eA, ← j3] at hok2
      obtain ⟨zM, zP⟩ := hok2 hi
      have htA : top < A.length := by omega
      obtain ⟨pi, pj, di, dj, H3, H4, y1, y2, y3, y4, y5, y6, y7, y8⟩ := hI.swap (lk := lk) q4t top i htA hi hlk
      rw [x1] at y3
      injection y3 with y3
      subst y3
      rw [x2] at y4
      injection y4 with y4
      injection y4 with y4
      subst y4
      obtain ⟨A1, hA1⟩ : ∃ A1, A1 = q3r A top i [] := ⟨_, rfl⟩
      rw [← hA1] at y7
      have hr1 : Rect A1 c := by rw [hA1]; exact hrect.swap top i htA hi
      have hl1 : A1.length = A.length := by rw [hA1, q1e]
      have ht1 : top < A1.length := by omega
      have hrt1 : (rw' A1 top).length = c := hr1 top ht1
      have hpv : qf (rw' A1 top) k = qf (rw' A i) k := by rw [hA1, q6x htA hi top htA, tau_l]
      obtain ⟨q3, d3, q4, z1, z2, z3, z4⟩ := y7.own.ent q4t top k ht1 (by rw [hrt1]; omega)
      have z2 := z2 H4 (Ext.refl _)
      have z4 := z4 H4 (Ext.refl _)
      rw [hl1, y1] at z1
      injection z1 with z1
      subst z1
      have hne : qf (rw' A1 top) k ≠ 0 := by rw [hpv]; exact hz
      have kinv := fun lk H' => c_Inverse lk H' (qf (rw' A1 top) k) hne
      have hlo4 : lk ≤ H4.length := by omega
      rw [hrt1] at z2 z3
      simp -dsimp only [go_sem, s1, s6, s9, s10, s11, s12, f4, f5, x1, x2, x3, x4, kz, y1, y2, y5, y6, z2, z3, z4, kinv, hlo4]
      have c0 : qf (rw' A1 top) k = (qf (rw' A1 top) k) := rfl
      clear c0
      obtain ⟨inv, hinv⟩ : ∃ inv, inv = (qf (rw' A1 top) k)⁻¹ := ⟨_, rfl⟩
      have hA2 : rdM A top i k = A1.set top (scl (rw' A1 top) inv) := by unfold rdM; rw [← hA1, hinv]
      rw [hA2] at hst zM zP
      have zrow : ∀ j, Sz (qf (rw' A1 top) j) := fun j => by
       rw [hA1, q6x htA hi top htA]; exact hszk _ _
      have zinv : Sz inv := by rw [hinv]; exact sm_inv (zrow k) (by decide)
      rw [← hinv]
      obtain ⟨H5, hH5⟩ : ∃ H5, H5 = H4 ++ [⟨rC inv, 3, false⟩] := ⟨_, rfl⟩
      have hI5 : RIn H H5 L a (q3r xs top i ⟨none, 0⟩) A1 pv P := by rw [hH5]; exact y7.more _
      have hb5 : q0e H5 H4.length = some ⟨rC inv, 3, false⟩ := by rw [hH5]; exact q0j _ _
      have hl5 : H5.length = H4.length + 1 := by rw [hH5]; simp
      have hL4 : L ≤ H4.length := y7.l1
      rw [← hH5]
      obtain ⟨q5, d5, w1, w2, _⟩ := hI5.own.rd q4t top ht1
      have w2 := w2 H5 (Ext.refl _)
      rw [hl1, y1] at w1
      injection w1 with w1
      subst w1
      rw [hrt1] at w2
      simp -dsimp only [go_sem, s6, s11, w2]
      refine q2g (m := fun (j : Nat) => c - j) (I := fun j σ Hj => j ≤ c ∧ RIn H Hj L a (q3r xs top i ⟨none, 0⟩) (A1.set top (sclU (rw' A1 top) inv j)) pv P ∧ Hj.length = H5.length ∧ q0e Hj H4.length = some ⟨rC inv, 3, false⟩ ∧ σ 1 = .int .i64 (width : Int) ∧ σ 6 = .slice a A.length A.length ∧ σ 9 = .slice pv top top ∧ σ 10 = .int .i64 (k : Int) ∧ σ 11 = .int .i64 (top : Int) ∧ σ 13 = .pointer (some ⟨H4.length, 0, none⟩) ∧ σ 91 = .int .i64 (c : Int) ∧ σ 92 = .int .i64 (j : Int)) 0 ⟨Nat.zero_le _, by rw [sclU_zero, set_rw ht1]; exact hI5, rfl, hb5, s1, s6, s9, s10, s11, rfl, rfl, rfl⟩ ?_
      clear s1 s6 s9 s10 s11 s12 σ
      rintro j σ Hj ⟨n1, hIj, n2, n3, s1, s6, s9, s10, s11, s13, s91, s92⟩
      by_cases hj : j < c
      ·have f6 := ltI hj
       have e12 := q1m hj (by omega)
       have htj : top < (A1.set top (sclU (rw' A1 top) inv j)).length := by rw [List.length_set]; exact ht1
       have hrj : rw' (A1.set top (sclU (rw' A1 top) inv j)) top = sclU (rw' A1 top) inv j := by rw [q5y _ _ _ _ ht1, if_pos rfl]
       have hlj : (sclU (rw' A1 top) inv j).length = c := by rw [w1f]; exact hrt1
       obtain ⟨p1, d1, p2, Hn, o1, o2, o3, o4, o5, o6, o7⟩ := hIj.wr (lk := lk) q4t top j htj (by rw [hrj, hlj]; exact hj) hlk (qf (rw' A1 top) j * inv)
       obtain ⟨p1', d1', p2', t1, t2, t3, t4⟩ := hIj.own.ent q4t top j htj (by rw [hrj, hlj]; exact hj)
       have t2 := t2 Hj (Ext.refl _)
       have t4 := t4 Hj (Ext.refl _)
       rw [o1] at t1
       injection t1 with t1
       subst t1
       rw [o2] at t2
       injection t2 with t2
       injection t2 with t2
       subst t2
       rw [o3] at t3
       injection t3 with t3
       subst t3
       rw [hrj, sclU_get] at t4
       rw [List.length_set, hl1] at o1
       rw [hrj, hlj] at o2 o3
       rw [hrj, sclU_set, List.set_set] at o5
       have km := fun lk H' => c_Mul lk H' (qf (rw' A1 top) j) inv (zrow j) zinv
       simp -dsimp only [go_sem, s1, s6, s9, s10, s11, s13, s91, s92, f6, o1, o2, o3, o4, t4, n3, km, e12]
       exact next (j + 1) (by show c - (j + 1) < c - j; omega) ⟨hj, o5, by rw [o6]; exact n2, by rw [o7 _ hL4]; exact n3, s1, s6, s9, s10, s11, s13, s91, rfl⟩
      ·have hj' : j = c := by omega
       subst hj'
       have f6 := nltI j
       have hscl : sclU (rw' A1 top) inv j = scl (rw' A1 top) inv := by unfold scl; rw [hrt1]
       rw [hscl] at hIj
       obtain ⟨A2, hA2'⟩ : ∃ A2, A2 = A1.set top (scl (rw' A1 top) inv) := ⟨_, rfl⟩
       rw [← hA2'] at hIj zM zP hst
       have hl2 : A2.length = A.length := by rw [hA2', List.length_set]; exact hl1
       have hr2 : Rect A2 j := by
        rw [hA2']; exact hr1.set top (by unfold scl; rw [w1f]; exact hrt1)
       simp -dsimp only [go_sem, s1, s6, s9, s10, s11, s13, s91, s92, f6]
       refine q2g (m := fun (R : Nat) => A.length - R) (I := fun R σ Hr => R ≤ A.length ∧ RIn H Hr L a (q3r xs top i ⟨none, 0⟩) (elR A2 top k R) pv P ∧ σ 1 = .int .i64 (width : Int) ∧ σ 6 = .slice a A.length A.length ∧ σ 9 = .slice pv top top ∧ σ 10 = .int .i64 (k : Int) ∧ σ 11 = .int .i64 (top : Int) ∧ σ 112 = .int .i64 (A.length : Int) ∧ σ 113 = .int .i64 (R : Int)) 0 ⟨Nat.zero_le _, by rw [elR_zero]; exact hIj, s1, s6, s9, s10, s11, rfl, rfl⟩ ?_
       clear s1 s6 s9 s10 s11 s13 s91 s92 σ
       rintro R σ Hr ⟨m1, hIr, s1, s6, s9, s10, s11, s112, s113⟩
       have hlr : lk ≤ Hr.length := by have := hIr.l0; have := hIr.l1; omega
       by_cases hRl : R < A.length
       ·have f7 := ltI hRl
        have e13 := q1m hRl (by omega)
        by_cases hRt : R = top
        ·have f8 : ((R : Int) = (top : Int)) = True := eq_true (by omega)
         have hsk := elR_skip A2 top k R (.inl hRt)
         rw [← hsk] at hIr
         simp -dsimp only [go_sem, s1, s6, s9, s10, s11, s112, s113, f7, f8, e13]
         exact next (R + 1) (by show A.length - (R + 1) < A.length - R; omega) ⟨hRl, hIr, s1, s6, s9, s10, s11, s112, rfl⟩
        ·have f8 : ((R : Int) = (top : Int)) = False := eq_false (by omega)
         have hRe : R < (elR A2 top k R).length := by rw [q2h]; omega
         have hrR : rw' (elR A2 top k R) R = rw' A2 R := by rw [q5e _ _ _ _ _ (by omega), if_neg (by omega)]
         have hlR : (rw' A2 R).length = j := hr2 R (by omega)
         obtain ⟨p1, d1, p2, t1, t2, t3, t4⟩ := hIr.own.ent q4t R k hRe (by rw [hrR, hlR]; omega)
         have t2 := t2 Hr (Ext.refl _)
         have t4 := t4 Hr (Ext.refl _)
         rw [hrR] at t4
         rw [hrR, hlR] at t2 t3
         rw [q2h, hl2] at t1
         have kzR := fun lk H' => q7g lk H' (qf (rw' A2 R) k)
         by_cases hz2 : qf (rw' A2 R) k = 0
         ·rw [decide_eq_true hz2] at kzR
          have hsk := elR_skip A2 top k R (.inr hz2)
          rw [← hsk] at hIr
          simp -dsimp only [go_sem, s1, s6, s9, s10, s11, s112, s113, f7, f8, t1, t2, t3, t4, kzR, e13]
          exact next (R + 1) (by show A.length - (R + 1) < A.length - R; omega) ⟨hRl, hIr, s1, s6, s9, s10, s11, s112, rfl⟩
         ·rw [decide_eq_false hz2] at kzR
          obtain ⟨dd, hdd⟩ : ∃ dd, dd = qf (rw' A2 R) k := ⟨_, rfl⟩
          simp -dsimp only [go_sem, s1, s6, s9, s10, s11, s112, s113, f7, f8, t1, t2, t3, t4, kzR, hlr]
          rw [← hdd]
          obtain ⟨H6, hH6⟩ : ∃ H6, H6 = Hr ++ [⟨rC dd, 3, false⟩] := ⟨_, rfl⟩
          have hI6 : RIn H H6 L a (q3r xs top i ⟨none, 0⟩) (elR A2 top k R) pv P := by rw [hH6]; exact hIr.more _
          have hb6 : q0e H6 Hr.length = some ⟨rC dd, 3, false⟩ := by rw [hH6]; exact q0j _ _
          have hL6 : L ≤ Hr.length := hIr.l1
          rw [← hH6]
          obtain ⟨q6, d6, w3, w4, _⟩ := hI6.own.rd q4t R hRe
          have w4 := w4 H6 (Ext.refl _)
          rw [q2h, hl2, t1] at w3
          injection w3 with w3
          subst w3
          rw [hrR, hlR] at w4
          simp -dsimp only [go_sem, s6, w4]
          refine q2g (m := fun (J : Nat) => j - J) (I := fun J σ Hj => J ≤ j ∧ RIn H Hj L a (q3r xs top i ⟨none, 0⟩) ((elR A2 top k R).set R (elU (rw' A2 R) (rw' A2 top) dd J)) pv P ∧ q0e Hj Hr.length = some ⟨rC dd, 3, false⟩ ∧ σ 1 = .int .i64 (width : Int) ∧ σ 6 = .slice a A.length A.length ∧ σ 9 = .slice pv top top ∧ σ 10 = .int .i64 (k : Int) ∧ σ 11 = .int .i64 (top : Int) ∧ σ 112 = .int .i64 (A.length : Int) ∧ σ 113 = .int .i64 (R : Int) ∧ σ 15 = .int .i64 (R : Int) ∧ σ 16 = .pointer (some ⟨Hr.length, 0, none⟩) ∧ σ 140 = .int .i64 (j : Int) ∧ σ 141 = .int .i64 (J : Int)) 0 ⟨Nat.zero_le _, by rw [elU_zero, ← hrR, set_rw hRe]; exact hI6, hb6, s1, s6, s9, s10, s11, s112, s113, rfl, rfl, rfl, rfl⟩ ?_
          clear s1 s6 s9 s10 s11 s112 s113 σ
          rintro J σ Hj ⟨v1, hIj, v2, s1, s6, s9, s10, s11, s112, s113, s15, s16, s140, s141⟩
          by_cases hJ : J < j
          ·have f9 := ltI hJ
           have e14 := q1m hJ (by omega)
           obtain ⟨B, hB⟩ : ∃ B, B = (elR A2 top k R).set R (elU (rw' A2 R) (rw' A2 top) dd J) := ⟨_, rfl⟩
           rw [← hB] at hIj
           have hBl : B.length = A.length := by rw [hB, List.length_set, q2h]; exact hl2
           have hBR : rw' B R = elU (rw' A2 R) (rw' A2 top) dd J := by rw [hB, q5y _ _ _ _ hRe, if_pos rfl]
           have hBt : rw' B top = rw' A2 top := by
            rw [hB, q5y _ _ _ _ hRe, if_neg (fun h => hRt h.symm), q5e _ _ _ _ _ (by omega), if_neg (by omega)]
           have hBRl : (elU (rw' A2 R) (rw' A2 top) dd J).length = j := by rw [elU_len]; exact hlR
           have hBtl : (rw' A2 top).length = j := hr2 top (by omega)
           obtain ⟨p3, d3', p4, Hn, o1, o2, o3, o4, o5, o6, o7⟩ := hIj.wr (lk := lk) q4t R J (by omega) (by rw [hBR, hBRl]; exact hJ) hlk (qf (rw' A2 R) J - dd * qf (rw' A2 top) J)
           obtain ⟨p3', d3'', p4', t1, t2, t3, t4⟩ := hIj.own.ent q4t R J (by omega) (by rw [hBR, hBRl]; exact hJ)
           have t2 := t2 Hj (Ext.refl _)
           have t4 := t4 Hj (Ext.refl _)
           rw [o1] at t1
           injection t1 with t1
           subst t1
           rw [o2] at t2
           injection t2 with t2
           injection t2 with t2
           subst t2
           rw [o3] at t3
           injection t3 with t3
           subst t3
           rw [hBR, elU_get] at t4
           obtain ⟨p5, d5', p6, r1, r2, r3, r4⟩ := hIj.own.ent q4t top J (by omega) (by rw [hBt, hBtl]; exact hJ)
           have r2 := r2 Hj (Ext.refl _)
           have r4 := r4 Hj (Ext.refl _)
           rw [hBt] at r4
           rw [hBt, hBtl] at r2 r3
           rw [hBl] at o1 r1
           rw [hBR, hBRl] at o2 o3
           rw [hBR, elU_set, hB, List.set_set] at o5
           have km := fun lk H' => c_Mul lk H' dd (qf (rw' A2 top) J) (by rw [hdd]; exact zM R k) (zM top J)
           have ks := fun lk H' => c_Sub lk H' (qf (rw' A2 R) J) (dd * qf (rw' A2 top) J) (zM R J) (by rw [hdd]; exact zP R J)
           simp -dsimp only [go_sem, s1, s6, s9, s10, s11, s112, s113, s15, s16, s140, s141, f9, o1, o2, o3, o4, t4, r1, r2, r3, r4, v2, km, ks, e14]
           exact next (J + 1) (by show j - (J + 1) < j - J; omega) ⟨hJ, o5, by rw [o7 _ hL6]; exact v2, s1, s6, s9, s10, s11, s112, s113, s15, s16, s140, rfl⟩
          ·have hJ' : J = j := by omega
           have f9 : ((J : Int) < (j : Int)) = False := eq_false (by omega)
           have hel : elU (rw' A2 R) (rw' A2 top) dd J = elm (rw' A2 R) (rw' A2 top) (qf (rw' A2 R) k) := by unfold elm; rw [hdd, hJ', hlR]
           rw [hel, elR_next _ _ _ _ (by omega) hRt hz2] at hIj
           simp -dsimp only [go_sem, s1, s6, s9, s10, s11, s112, s113, s15, s16, s140, s141, f9, e13]
           exact next (R + 1) (by show A.length - (R + 1) < A.length - R; omega) ⟨hRl, hIj, s1, s6, s9, s10, s11, s112, rfl⟩
       ·have hR' : R = A.length := by omega
        subst hR'
        have f7 := nltI A.length
        have hTL : (Hr.take L).length = L := by rw [List.length_take, Nat.min_eq_left hIr.l1]
        have hTE : Ext (Hr.take L) Hr := fun b hb => by
         rw [hTL] at hb
         rw [List.getElem?_take_of_lt hb]
        have hpO : Own (Hr.take L).length Hr pv (misN P) := by rw [hTL]; exact hIr.piv
        have hap := ap_mi (lk := lk) (H := Hr) (H0 := Hr.take L) (a := pv) (l := misN P) (n := top) hpO (by rw [hTL]; have := hIr.l0; omega) (by rw [q4o]; exact htop) (by omega) (k : Int)
        have hO2 := own_mi hTE hpO (k : Int) [⟨[.int .i64 (k : Int)], 1, false⟩]
        rw [hTL, ← misN_app] at hO2
        have hE2 := ext_mi hTE hpO [⟨[.int .i64 (k : Int)], 1, false⟩] [⟨q0g (misN P) ++ [.int .i64 (k : Int)], 1, false⟩]
        have hE3 := ext_mi hIr.ext (hIr.piv.low hIr.l0) [⟨[.int .i64 (k : Int)], 1, false⟩] [⟨q0g (misN P) ++ [.int .i64 (k : Int)], 1, false⟩]
        have hfin := hIr.keep hE3 hE2 hO2
        have hend : elR A2 top k A.length = (rdS M (k + 1)).1 ∧ P ++ [k] = (rdS M (k + 1)).2 := by rw [hst]; exact ⟨rfl, rfl⟩
        rw [hend.1, hend.2] at hfin
        have hpl2 : (rdS M (k + 1)).2.length = top + 1 := by rw [← hend.2, List.length_append, htop]; rfl
        simp -dsimp only [go_sem, s1, s6, s9, s10, s11, s112, s113, f7, reps, hap, e10]
        refine next (k + 1, _, _) (by show width - (k + 1) < width - k; omega) ⟨hk, hfin, s1, ?_, ?_, rfl⟩
        ·rw [← eA]; exact s6
        ·show _ = Value.slice _ (rdS M (k + 1)).2.length (rdS M (k + 1)).2.length
         rw [hpl2]; rfl
    ·have hi' : i = A.length := by omega
     subst hi'
     have f4 := nltI A.length
     have f5 : ((A.length : Int) = (A.length : Int)) = True := eq_true rfl
     rw [Nat.sub_self, fnz] at j3
     rw [← j3, if_pos rfl] at hst
     simp -dsimp only [go_sem, s1, s6, s9, s10, s11, s12, f4, f5, e10]
     refine next (k + 1, xs, pv) (by show width - (k + 1) < width - k; omega) ⟨hk, ?_, s1, ?_, ?_, rfl⟩
     ·show RIn H H2 L a xs (rdS M (k + 1)).1 pv (rdS M (k + 1)).2
      rw [hst]; exact hI
     ·rw [← eA]; exact s6
     ·show σ 9 = .slice pv (rdS M (k + 1)).2.length (rdS M (k + 1)).2.length
      rw [hst]
      show σ 9 = .slice pv P.length P.length
      rw [← htop]; exact s9
   ·have f3 : ((P.length : Int) < (M.length : Int)) = False := eq_false (by omega)
    have hfull : rdS M width = (A, P) := by
     have : ∀ j, rdS M (k + j) = (A, P) := fun j => by
      induction j with
      | zero => exact hS
      | succ j ih =>
       show q5o (rdS M (k + j)) (k + j) = _
       rw [ih]
       unfold q5o
       rw [if_neg (by show ¬ P.length < A.length; omega)]
     have h2 := this (width - k)
     rwa [show k + (width - k) = width by omega] at h2
    simp -dsimp only [go_sem, s1, s6, s9, s10, f2, f3]
    rw [hfull]
    have hll : A.length = M.length := hml
    exact ⟨hI.ext, _, _, rfl, ⟨a, xs, by rw [hll], hI.own⟩, pv, by rw [q4o], hI.piv.sl⟩
  ·have hk' : k = width := by omega
   subst hk'
   have f2 := nltI k
   simp -dsimp only [go_sem, s1, s6, s9, s10, f2]
   rw [hS]
   have hll : A.length = M.length := hml
   exact ⟨hI.ext, _, _, rfl, ⟨a, xs, by rw [hll], hI.own⟩, pv, by rw [q4o], hI.piv.sl⟩
def w4a (ls : List (List Rat)) (b : List Rat) (i : Nat) : List Rat := ls.map (fun a => qf a i) ++ [qf b i]
def exM (n : Nat) (ls : List (List Rat)) (b : List Rat) : List (List Rat) := (List.range n).map (w4a ls b)
theorem exRow_len (ls : List (List Rat)) (b : List Rat) (i : Nat) : (w4a ls b i).length = ls.length + 1 := by simp [w4a]
theorem q6i (n : Nat) (ls : List (List Rat)) (b : List Rat) : (exM n ls b).length = n := by simp [exM]
theorem exM_succ (n : Nat) (ls : List (List Rat)) (b : List Rat) : exM (n + 1) ls b = exM n ls b ++ [w4a ls b n] := by simp [exM, List.range_succ]
theorem exM_rect (n : Nat) (ls : List (List Rat)) (b : List Rat) : Rect (exM n ls b) (ls.length + 1) := fun i hi => by
 rw [q1o hi]; simp [exM, w4a]
theorem rdS_lt (M : List (List Rat)) : ∀ k x, x ∈ (rdS M k).2 → x < k
 | 0, x, h => by simp [rdS] at h
 | k + 1, x, h => by
  unfold rdS q5o at h
  split at h
  ·split at h
   ·have := rdS_lt M k x h; omega
   ·rcases List.mem_append.1 h with h | h
    ·have := rdS_lt M k x h; omega
    ·have := List.mem_singleton.1 h; omega
  ·have := rdS_lt M k x h; omega
def exL (A : List (List Rat)) (P : List Nat) (w : Nat) : Nat → List Rat
 | 0 => List.replicate w 0
 | i + 1 => (exL A P w i).set (P.getD i 0) (qf (rw' A i) w)
theorem q8g (A : List (List Rat)) (P : List Nat) (w : Nat) : ∀ i, (exL A P w i).length = w
 | 0 => List.length_replicate
 | i + 1 => by rw [exL, List.length_set]; exact q8g A P w i
def exC (A : List (List Rat)) (p w : Nat) (i : Nat) : Bool := (List.range i).all fun r => decide (r < p) || decide (qf (rw' A r) w = 0)
theorem exC_succ (A : List (List Rat)) (p w i : Nat) : exC A p w (i + 1) = (exC A p w i && (decide (i < p) || decide (qf (rw' A i) w = 0))) := by simp [exC, List.range_succ]
def q3e (n : Nat) (ls : List (List Rat)) (b : List Rat) : Option (List Rat) :=
 let s := rdS (exM n ls b) ls.length
 if exC s.1 s.2.length ls.length n = true then some (exL s.1 s.2 ls.length s.2.length) else none
theorem p_Express {H : Heap} {v u : Value} {n : Nat} {ls : List (List Rat)} {b : List Rat} (hv : MV H v ls) (hu : LV H u b) (hn : n ≤ 10000) (hl : ls.length ≤ 10000) (ok : RdOk (exM n ls b) ls.length) :
  q0m 55 [.int .i64 (n : Int), v, u] H (fun r H' => match q3e n ls b with
   | some x => ∃ w, r = .tuple #[w, .bool true] ∧ LV H' w x
   | none => r = .tuple #[.slice none 0 0, .bool false]) := by
 obtain ⟨av, rfl⟩ := hv.is
 refine q1n (by decide) Tryz.func55 rfl ?_
 intro lk hlk
 simp -dsimp only [go_sem]
 obtain ⟨m, hm⟩ : ∃ m, m = ls.length := ⟨_, rfl⟩
 refine q2g (m := fun (s : Nat × Option Addr × List Sx × Value) => n - s.1) (I := fun s σ H' => s.1 ≤ n ∧ Ext H H' ∧ MGrow H.length H' s.2.2.2 (exM s.1 ls b) s.2.1 s.2.2.1 ∧ σ 1 = .slice av m m ∧ σ 2 = u ∧ σ 18 = .int .i64 (n : Int) ∧ σ 8 = s.2.2.2 ∧ σ 19 = .int .i64 (s.1 : Int)) (0, none, [], .slice none 0 0) ⟨Nat.zero_le _, Ext.refl _, MGrow.nil, by rw [hm]; rfl, rfl, rfl, rfl, rfl⟩ ?_
 rintro ⟨i, a, xs, vo⟩ σ H' ⟨h1, hE, hG, s1, s2, s18, s8, s19⟩
 simp only at h1 hG s8 s19
 have hlo := hE.le
 by_cases hi : i < n
 ·have f1 := ltI hi
  have e7 := q1m hi (by omega)
  simp -dsimp only [go_sem, s1, s2, s18, s8, s19, f1]
  obtain ⟨F, hF⟩ : ∃ F : Nat → Rat, F = fun j => qf (rw' ls j) i := ⟨_, rfl⟩
  refine q2g (m := fun (s : Nat × Option Addr) => m - s.1) (I := fun s σ H2 => s.1 ≤ m ∧ Ext H' H2 ∧ Own H'.length H2 s.2 (mapR F s.1) ∧ σ 1 = .slice av m m ∧ σ 2 = u ∧ σ 18 = .int .i64 (n : Int) ∧ σ 8 = vo ∧ σ 19 = .int .i64 (i : Int) ∧ σ 9 = .int .i64 (i : Int) ∧ σ 22 = .slice av m m ∧ σ 23 = .int .i64 (m : Int) ∧ σ 10 = .slice s.2 s.1 s.1 ∧ σ 24 = .int .i64 (s.1 : Int)) (0, none) ⟨Nat.zero_le _, Ext.refl _, Own.nil, s1, s2, s18, s8, s19, rfl, rfl, rfl, rfl, rfl⟩ ?_
  clear s1 s2 s18 s8 s19 σ
  rintro ⟨j, c⟩ σ H2 ⟨h2, hE2, hO, s1, s2, s18, s8, s19, s9, s22, s23, s10, s24⟩
  simp only at h2 hO s10 s24
  have hlen := q0d F j
  by_cases hj : j < m
  ·have f2 := ltI hj
   have e8 := q1m hj (by omega)
   obtain ⟨p, d, q1, q2, q3⟩ := hv.ix q5n j (by omega)
   have q2 := q2 H2 (hE.trans hE2)
   rw [← hm] at q1
   have kc := w0m (H := H2) (v := .slice d ls[j].length ls[j].length) (f := ls[j]) ⟨d, rfl, (hE.trans hE2).sl q3⟩ i
   have hFj : qf ls[j] i = F j := by rw [show F j = qf (rw' ls j) i from congrFun hF j, q1o (by omega)]
   rw [hFj] at kc
   have hap := q5w (lk := lk) (t := 22) (t2 := 22) q0o q0o hO (by omega) hlen.symm (by omega) (F j)
   have hO2 := q2w hE2 hO (F j) [⟨rC (F j), 3, false⟩]
   rw [← q2d] at hO2
   simp -dsimp only [go_sem, s1, s2, s18, s8, s19, s9, s22, s23, s10, s24, f2, q1, q2, kc, reps, hap, e8]
   exact next (j + 1, _) (by show m - (j + 1) < m - j; omega) ⟨hj, q2r hE2 hO _ _, hO2, s1, s2, s18, s8, s19, s9, s22, s23, rfl, rfl⟩
  ·have hj' : j = m := by omega
   subst hj'
   have f2 := nltI j
   have kc := w0m (H := H2) (hu.ext (hE.trans hE2)) i
   have hap := q5w (lk := lk) (t := 22) (t2 := 22) q0o q0o hO (by omega) hlen.symm (by omega) (qf b i)
   have hO2 := q2w hE2 hO (qf b i) [⟨rC (qf b i), 3, false⟩]
   have hE3 := q2r hE2 hO [⟨rC (qf b i), 3, false⟩] [⟨q0g (mapR F j) ++ rC (qf b i), 3, false⟩]
   have hrow : mapR F j ++ [qf b i] = w4a ls b i := by
    unfold w4a
    congr 1
    refine List.ext_getElem (by rw [q0d, List.length_map]; exact hm) fun k k1 k2 => ?_
    rw [q1u, List.getElem_map, hF]
    simp only [List.length_map] at k2
    show qf (rw' ls k) i = _
    rw [q1o k2]
   rw [hrow] at hO2
   have hrl := exRow_len ls b i
   simp only [List.length_cons, List.length_nil, Nat.zero_add] at hO2
   have hG2 := hG.ext hE3
   obtain ⟨hG3, hE4⟩ := hG2.app (hE.trans hE3) hO2.sl
   have hxl := hG.rows.1
   rw [q6i] at hxl
   have hvo := hG.v
   rw [q6i] at hvo hG3
   rw [← exM_succ, hrl, ← hm] at hG3
   rw [hrl, ← hm] at hE4
   have hap2 := w3g (lk := lk) (t := 27) (t2 := 27) q4t q4t.e hG2.own (by omega) hxl.symm (by omega) ⟨some ⟨H2.length + 1, 0, none⟩, j + 1⟩
   obtain ⟨H5, hH5⟩ : ∃ H5, H5 = kill (H2 ++ [⟨rC (qf b i), 3, false⟩]) c ++ [⟨q0g (mapR F j) ++ rC (qf b i), 3, false⟩] := ⟨_, rfl⟩
   rw [← hH5] at hG3 hE4 hap2 hap
   simp -dsimp only [go_sem, s1, s2, s18, s8, s19, s9, s22, s23, s10, s24, f2, kc, reps, hap, hvo, hap2, e7]
   exact next (i + 1, _, _, _) (by show n - (i + 1) < n - i; omega) ⟨hi, hE4, hG3, s1, s2, s18, rfl, rfl⟩
 ·have hi' : i = n := by omega
  subst hi'
  have f1 := nltI i
  simp -dsimp only [go_sem, s1, s2, s18, s8, s19, f1]
  refine ob_y (p_Reduce (width := m) hG.mv (exM_rect i ls b) (by omega) (by omega) (by rw [q6i]; omega) (by rw [hm]; exact ok)) (by omega) ?_
  rintro r H2 hE2 ⟨w, pv, rfl, hA, hP⟩
  have hl2 := hE2.le
  have hAl := q7y (exM i ls b) m
  have hAr := w4f (exM_rect i ls b) m
  have hPl := rdS_piv (exM i ls b) m
  have hPm := rdS_lt (exM i ls b) m
  rw [q6i] at hAl hPl
  unfold q3e
  simp only []
  rw [← hm] at hAr ⊢
  generalize rdS (exM i ls b) m = S at hA hP hAl hAr hPl hPm
  obtain ⟨A, P⟩ := S
  simp only at hA hP hAl hAr hPl hPm ⊢
  obtain ⟨aw, rfl⟩ := hA.mv.is
  obtain ⟨pa, rfl, hps⟩ := hP
  rw [q4o]
  obtain ⟨m1, m2, m3, m4⟩ := mk64 (n := m) (by omega)
  have c0 := fun lk H' => c_Int lk H' 0 (by omega)
  rw [show (((0 : Int)) : Rat) = 0 from rfl] at c0
  simp -dsimp only [go_sem, s1, m3, m4]
  refine q2g (m := fun (k : Nat) => m - k) (I := fun k σ H3 => k ≤ m ∧ Ext H2 H3 ∧ Own H2.length H3 (some ⟨H2.length, 0, none⟩) (upO (fun _ => 0) m k) ∧ σ 1 = .slice av m m ∧ σ 8 = .slice aw A.length A.length ∧ σ 13 = .slice pa P.length P.length ∧ σ 14 = .slice (some ⟨H2.length, 0, none⟩) m m ∧ σ 56 = .int .i64 (m : Int) ∧ σ 57 = .int .i64 (k : Int)) 0 ⟨Nat.zero_le _, Ext.app _ _, by rw [q8s]; exact q9b m (Nat.le_refl _), s1, rfl, rfl, rfl, rfl, rfl⟩ ?_
  clear s1 s2 s18 s8 s19 σ
  rintro k σ H3 ⟨g1, hE3, hO, s1, s8, s13, s14, s56, s57⟩
  have hl3 := hE3.le
  by_cases hk : k < m
  ·have f2 := ltI hk
   have e8 := q1m hk (by omega)
   obtain ⟨p, H4, q1, q2, q3, q4⟩ := hO.puto (lk := lk) q0o k (by rw [q4b]; exact hk) (by omega) 0
   rw [q4b] at q1
   rw [w2g (fun _ => 0)] at q3
   simp -dsimp only [go_sem, s1, s8, s13, s14, s56, s57, f2, c0, q1, q2, e8]
   exact next (k + 1) (by show m - (k + 1) < m - k; omega) ⟨hk, q4 H2 (Nat.le_refl _) hE3, q3, s1, s8, s13, s14, s56, rfl⟩
  ·have hk' : k = m := by omega
   have f2 : ((k : Int) < (m : Int)) = False := eq_false (by omega)
   rw [hk', w2h] at hO
   replace hO := hO.done
   have hz : mapR (fun _ => (0 : Rat)) m = exL A P m 0 := by
    refine List.ext_getElem (by rw [q0d, q8g]) fun l l1 l2 => ?_
    rw [q1u]; simp [exL]
   rw [hz] at hO
   simp -dsimp only [go_sem, s1, s8, s13, s14, s56, s57, f2]
   refine q2g (m := fun (r : Nat) => A.length - r) (I := fun r σ H4 => r ≤ A.length ∧ Ext H2 H4 ∧ Own H2.length H4 (some ⟨H2.length, 0, none⟩) (exL A P m (min r P.length)) ∧ exC A P.length m r = true ∧ σ 1 = .slice av m m ∧ σ 13 = .slice pa P.length P.length ∧ σ 14 = .slice (some ⟨H2.length, 0, none⟩) m m ∧ σ 65 = .slice aw A.length A.length ∧ σ 66 = .int .i64 (A.length : Int) ∧ σ 67 = .int .i64 (r : Int)) 0 ⟨Nat.zero_le _, hE3, by rw [Nat.zero_min]; exact hO, rfl, s1, s13, s14, rfl, rfl, rfl⟩ ?_
   clear s1 s8 s13 s14 s56 s57 hO hE3 hl3 H3 σ
   rintro r σ H3 ⟨g2, hE3, hO, hC, s1, s13, s14, s65, s66, s67⟩
   have hl3 := hE3.le
   by_cases hr : r < A.length
   ·have f3 := ltI hr
    have e9 := q1m hr (by omega)
    obtain ⟨p, d, q1, q2, q3⟩ := hA.mv.ix q4t r hr
    have q2 := q2 H3 hE3
    have hrl : A[r].length = m + 1 := by rw [← q1o hr]; exact hAr r hr
    obtain ⟨p2, q4, q5⟩ := q3.ix m (by omega) q0o
    have q5 := q5 H3 hE3
    rw [← q1y (by omega), ← q1o hr] at q5
    rw [hrl] at q2 q4
    by_cases hrP : r < P.length
    ·have f4 := ltI hrP
     obtain ⟨bb, o, B, rfl, hB, hz2, hg⟩ := hps.mi r (by rw [q4o]; exact hrP)
     have hB' := hE3.live hB
     have hPr : (misN P)[r]'(by rw [q4o]; exact hrP) = ⟨((P.getD r 0 : Nat) : Int)⟩ := by
      simp [misN, mis, List.getD_eq_getElem?_getD, hrP]
     rw [hPr] at hg
     have hlt : P.getD r 0 < m := by
      rw [List.getD_eq_getElem?_getD, List.getElem?_eq_getElem hrP, Option.getD_some]
      exact hPm _ (List.getElem_mem hrP)
     rw [Nat.min_eq_left (by omega)] at hO
     obtain ⟨p6, H6, o1, _, o3, o4, o5, _⟩ := hO.putq (lk := lk) q0o (P.getD r 0) (by rw [q8g]; exact hlt) (by omega) (qf (rw' A r) m)
     rw [q8g] at o1
     simp -dsimp only [go_sem, s1, s13, s14, s65, s66, s67, f3, f4, q1, q2, q4, q5, hB', hz2, hg, hrP, o1, o3, e9]
     refine next (r + 1) (by show A.length - (r + 1) < A.length - r; omega) ⟨hr, o5 H2 (Nat.le_refl _) hE3, ?_, ?_, s1, s13, s14, s65, s66, rfl⟩
     ·rw [Nat.min_eq_left (by omega)]; exact o4
     ·rw [exC_succ, hC, decide_eq_true hrP]; rfl
    ·have f4 : ((r : Int) < (P.length : Int)) = False := eq_false (by omega)
     have kz := fun lk H' => q7g lk H' (qf (rw' A r) m)
     rw [Nat.min_eq_right (by omega)] at hO
     by_cases hzr : qf (rw' A r) m = 0
     ·rw [decide_eq_true hzr] at kz
      simp -dsimp only [go_sem, s1, s13, s14, s65, s66, s67, f3, f4, q1, q2, q4, q5, kz, e9]
      refine next (r + 1) (by show A.length - (r + 1) < A.length - r; omega) ⟨hr, hE3, ?_, ?_, s1, s13, s14, s65, s66, rfl⟩
      ·rw [Nat.min_eq_right (by omega)]; exact hO
      ·rw [exC_succ, hC, decide_eq_true hzr, Bool.or_true]; rfl
     ·rw [decide_eq_false hzr] at kz
      have hbad : exC A P.length m i = false := by
       unfold exC
       rw [List.all_eq_false]
       refine ⟨r, List.mem_range.2 (by omega), ?_⟩
       rw [decide_eq_false hrP, decide_eq_false hzr]; decide
      rw [hbad]
      simp -dsimp only [go_sem, s1, s13, s14, s65, s66, s67, f3, f4, q1, q2, q4, q5, kz]
      exact hE.trans (hE2.trans hE3)
   ·have hr' : r = A.length := by omega
    subst hr'
    have f3 := nltI A.length
    rw [hAl] at hC
    rw [hC, if_pos rfl]
    rw [Nat.min_eq_right (by omega)] at hO
    simp -dsimp only [go_sem, s1, s13, s14, s65, s66, s67, f3]
    exact ⟨hE.trans (hE2.trans hE3), _, rfl, _, by rw [q8g], hO.sl⟩
def q4k (g : FuncId) (args : List Value) (H : Heap) (R : Value → Heap → Prop) : Prop :=
 ∀ lk, lk ≤ H.length → ∃ v H', q0c prog mdO lk g args H = some (v, H') ∧ Ext H H' ∧ R v H'
theorem q0m.o {g : FuncId} {args : List Value} {H : Heap} {R : Value → Heap → Prop} (h : q0m g args H R) : q4k g args H R :=
 fun lk hl => let ⟨v, H', h1, h2, h3⟩ := h lk hl; ⟨v, H', q1g mdLe h1, h2, h3⟩
theorem q4k.mono {g : FuncId} {args : List Value} {H : Heap} {R R' : Value → Heap → Prop} (h : q4k g args H R) (hr : ∀ v H', Ext H H' → R v H' → R' v H') : q4k g args H R' :=
 fun lk hl => let ⟨v, H', h1, h2, h3⟩ := h lk hl; ⟨v, H', h1, h2, hr v H' h2 h3⟩
theorem q2t {g : FuncId} {args : List Value} {H : Heap} {R : Value → Heap → Prop} {lk : Nat} {f : Value → Heap → Prop} (h : q4k g args H R) (hl : lk ≤ H.length) (hk : ∀ v H', Ext H H' → R v H' → f v H') : q3z (q0c prog mdO lk g args H) f := by
 obtain ⟨v, H', h1, h2, h3⟩ := h lk hl
 rw [h1]
 exact hk v H' h2 h3
theorem yo_raw {g : FuncId} {args : List Value} {H : Heap} {R : Value → Heap → Prop} {fn : Func} {body : Code} (hm : md g ≠ 1 ∧ md g ≠ 2 ∧ md g ≠ 3 ∧ md g ≠ 4 ∧ md g ≠ 5) (hg : prog.funcs[g]? = some fn) (hb : fn.body = some body)
  (h : ∀ lk, lk ≤ H.length → Runs prog mdO lk body (q4j args) H (Ends prog fn fun v H' => Ext H H' ∧ R v H')) : q4k g args H R := by
 intro lk hl
 rw [← (mdLe g).2 hm.2.2.1] at hm
 obtain ⟨v, H', h1, h2, h3⟩ := pcall_raw hm.1 hm.2.1 ⟨hm.2.2.1, hm.2.2.2.1, hm.2.2.2.2⟩ hg hb (h lk hl)
 refine ⟨v, H', ?_, h2, h3⟩
 rw [q7f hg (by rw [hb]; rfl)]
 exact h1
def tabR (p f : Nat) (i : Nat) : List Rat := (q3e (p - 1) (q0f p f) (pMod (pMul (rw' (q0f p f) 0) (rw' (q0f p f) i)) (phiP p))).getD []
def tabL (p f : Nat) (n : Nat) : List (List Rat) := (List.range n).map (tabR p f)
theorem tabL_succ (p f n : Nat) : tabL p f (n + 1) = tabL p f n ++ [tabR p f n] := by simp [tabL, List.range_succ]
theorem tabL_len (p f n : Nat) : (tabL p f n).length = n := by simp [tabL]
structure TabOk (p f : Nat) : Prop where
 l : (q0f p f).length ≤ 22
 n : ∀ i, i < (q0f p f).length → (rw' (q0f p f) i).length ≤ 22
 mu : ∀ i, i < (q0f p f).length → MulOk (rw' (q0f p f) 0) (rw' (q0f p f) i)
 nr : ∀ i, i < (q0f p f).length → Nrm (pMul (rw' (q0f p f) 0) (rw' (q0f p f) i))
 d : ∀ i, i < (q0f p f).length → XdOk (pMul (rw' (q0f p f) 0) (rw' (q0f p f) i)) (phiP p)
 e : ∀ i, i < (q0f p f).length → RdOk (exM (p - 1) (q0f p f) (pMod (pMul (rw' (q0f p f) 0) (rw' (q0f p f) i)) (phiP p))) (q0f p f).length
theorem p_Table {p f : Nat} (hp : p ∈ P9) (hf0 : 1 ≤ f) (hf : f ≤ 9223372036854775807) (hc : pCkB p f = 0) (ok : TabOk p f) (H : Heap) : q4k 10 [.int .i64 (p : Int), .int .i64 (f : Int)] H (fun v H' => ∃ w, v = .tuple #[w, .int .i64 0] ∧ MV H' w (tabL p f (q0f p f).length)) := by
 obtain ⟨hp2, hp23⟩ := q3a hp
 refine yo_raw (by decide) Tryz.func10 rfl ?_
 intro lk hlk
 have kc := fun lk H' => q1g mdLe (q4e lk H' p f)
 rw [hc] at kc
 simp -dsimp only [go_sem, kc]
 refine q2t (w0l hp H).o hlk ?_
 rintro vm H1 hE1 hm
 simp -dsimp only [go_sem]
 refine q2t (fun lk hl => p_periods hp hf0 hf lk H1 hl) (by have := hE1.le; omega) ?_
 rintro vp H2 hE2 hv
 obtain ⟨av, rfl⟩ := hv.is
 have hl2 := hE2.le
 have hl1 := hE1.le
 obtain ⟨L, hL⟩ : ∃ L, L = q0f p f := ⟨_, rfl⟩
 obtain ⟨ol, on, om, onr, od, oe⟩ := ok
 have htr : ∀ i, tabR p f i = (q3e (p - 1) L (pMod (pMul (rw' L 0) (rw' L i)) (phiP p))).getD [] := fun i => by rw [hL]; rfl
 rw [← hL] at ol on om onr od oe hv ⊢
 simp -dsimp only [go_sem]
 refine q2g (m := fun (s : Nat × Option Addr × List Sx × Value) => L.length - s.1) (I := fun s σ H' => s.1 ≤ L.length ∧ Ext H2 H' ∧ MGrow H2.length H' s.2.2.2 (tabL p f s.1) s.2.1 s.2.2.1 ∧ σ 0 = .int .i64 (p : Int) ∧ σ 7 = vm ∧ σ 8 = .slice av L.length L.length ∧ σ 9 = s.2.2.2 ∧ σ 25 = .slice av L.length L.length ∧ σ 26 = .int .i64 (L.length : Int) ∧ σ 27 = .int .i64 (s.1 : Int)) (0, none, [], .slice none 0 0) ⟨Nat.zero_le _, Ext.refl _, MGrow.nil, rfl, rfl, rfl, rfl, rfl, rfl, rfl⟩ ?_
 rintro ⟨i, a, xs, vo⟩ σ H' ⟨h1, hE, hG, s0, s7, s8, s9, s25, s26, s27⟩
 simp only at h1 hG s9 s27
 have hlo := hE.le
 by_cases hi : i < L.length
 ·have f1 := ltI hi
  have e7 := q1m hi (by omega)
  have w1 : IntKind.i64.wrap ((p : Int) - 1) = ((p - 1 : Nat) : Int) := by rw [w64 (by omega) (by omega)]; omega
  obtain ⟨p1, d1, q1, q2, q3⟩ := hv.ix q5n i hi
  obtain ⟨p0, d0, z1, z2, z3⟩ := hv.ix q5n 0 (by omega)
  have q2 := q2 H' hE
  have z2 := z2 H' hE
  rw [← q1o hi] at q2 q3
  rw [← q1o (show 0 < L.length by omega)] at z2 z3
  simp only [Int.natCast_zero] at z1
  simp -dsimp only [go_sem, s0, s7, s8, s9, s25, s26, s27, f1, q1, q2, z1, z2, w1]
  have on0 := on 0 (by omega)
  have oni := on i hi
  refine q2t (p_PMul ⟨d0, rfl, hE.sl z3⟩ ⟨d1, rfl, hE.sl q3⟩ (om i hi) (by omega) (by omega)).o (by omega) ?_
  rintro v3 H3 hE3 hv3
  have hl3 := hE3.le
  simp -dsimp only [go_sem, s0, s7, s8, w1]
  refine q2t (p_Rest hv3 (hm.ext (hE2.trans (hE.trans hE3))) (onr i hi) (q5p (by omega)) (q3u p) (od i hi) (by have := q7a (rw' L 0) (rw' L i); omega) (by rw [q1q]; omega)).o (by omega) ?_
  rintro v4 H4 hE4 hv4
  have hl4 := hE4.le
  simp -dsimp only [go_sem, s0, s7, s8, w1]
  refine q2t (p_Express (n := p - 1) (hv.ext ((hE.trans hE3).trans hE4)) hv4 (by omega) (by omega) (oe i hi)).o (by omega) ?_
  rintro v5 H5 hE5 hv5
  have hl5 := hE5.le
  have hr : ∃ w b, v5 = .tuple #[w, b] ∧ LV H5 w (tabR p f i) := by
   rw [htr]
   split at hv5
   ·rename_i x hx
    obtain ⟨w, rfl, hw⟩ := hv5
    exact ⟨w, _, rfl, by rw [hx]; exact hw⟩
   ·rename_i hx
    exact ⟨_, _, hv5, by rw [hx]; exact LV.nil⟩
  obtain ⟨w, bb, rfl, c, rfl, hs⟩ := hr
  have hE25 := ((hE.trans hE3).trans hE4).trans hE5
  have hG2 := hG.ext ((hE3.trans hE4).trans hE5)
  obtain ⟨hG3, hE6⟩ := hG2.app hE25 hs
  have hvo := hG.v
  have hxl := hG.rows.1
  rw [tabL_len] at hxl hvo hG3
  rw [← tabL_succ] at hG3
  have hap := w3g (lk := lk) (t := 28) (t2 := 28) q2c q2c.e hG2.own (by omega) hxl.symm (by omega) ⟨c, (tabR p f i).length⟩
  simp -dsimp only [go_sem, s0, s7, s8, s9, s25, s26, s27, reps, hvo, hap, e7]
  exact next (i + 1, _, _, _) (by show L.length - (i + 1) < L.length - i; omega) ⟨hi, hE6, hG3, s0, s7, s8, rfl, s25, s26, rfl⟩
 ·have hi' : i = L.length := by omega
  subst hi'
  have f1 := nltI L.length
  simp -dsimp only [go_sem, s0, s7, s8, s9, s25, s26, s27, f1]
  exact ⟨hE1.trans (hE2.trans hE), vo, rfl, hG.mv⟩
theorem s_indexR {H : Heap} {v : Value} {f : List Rat} {g : FuncId} {P : Rat → Bool} (hv : LV H v f) (hl : f.length ≤ 1000000) (hg : Tells g P) :
  ∃ z : Int, (∀ lk, q0c prog md lk 119 [v, .func (.func g) #[] #[]] H = some (.int .i64 z, H)) ∧ decide (0 ≤ z) = f.any P := by
 obtain ⟨a, rfl, hs⟩ := hv
 have key : ∃ v, (∀ lk, q0c prog md lk 119 [.slice a f.length f.length, .func (.func g) #[] #[]] H = some (v, H)) ∧ ∃ z : Int, v = .int .i64 z ∧ decide (0 ≤ z) = f.any P := by
  refine y_val1 (by decide) Tryz.func119 rfl (by rintro v ⟨z, rfl, _⟩; rfl) ?_
  simp -dsimp only [go_sem]
  refine q0h (m := fun (i : Nat) => f.length - i) (I := fun i σ H' => i ≤ f.length ∧ H' = H ∧ (f.take i).any P = false ∧ σ 0 = .slice a f.length f.length ∧ σ 1 = .func (.func g) #[] #[] ∧ σ 7 = .int .i64 (f.length : Int) ∧ σ 8 = .int .i64 (i : Int)) 0 ⟨Nat.zero_le _, rfl, rfl, rfl, rfl, rfl, rfl⟩ ?_
  rintro i σ H' ⟨h1, rfl, h2, s0, s1, s7, s8⟩
  by_cases hi : i < f.length
  ·have f1 := ltI hi
   have e7 := q1m hi hl
   obtain ⟨p, hp, hld⟩ := hs.ix i hi q0o
   have hld := hld _ (Ext.refl _)
   have k := fun lk H' => hg lk H' f[i]
   cases hP : P f[i] with
   | true =>
    rw [hP] at k
    simp -dsimp only [go_sem, s0, s1, s7, s8, f1, hp, hld, k]
    refine ⟨_, rfl, ?_⟩
    rw [decide_eq_true (by omega)]
    exact (List.any_eq_true.2 ⟨f[i], List.getElem_mem hi, hP⟩).symm
   | false =>
    rw [hP] at k
    simp -dsimp only [go_sem, s0, s1, s7, s8, f1, hp, hld, k, e7]
    refine next (i + 1) (by show f.length - (i + 1) < f.length - i; omega) ⟨hi, rfl, ?_, s0, s1, s7, rfl⟩
    rw [List.take_add_one, List.getElem?_eq_getElem hi, Option.toList_some, List.any_append, h2]
    simp [hP]
  ·have hi' : i = f.length := by omega
   subst hi'
   rw [List.take_length] at h2
   have f1 := nltI f.length
   simp -dsimp only [go_sem, s0, s1, s7, s8, f1]
   exact ⟨_, rfl, by rw [h2]; rfl⟩
 obtain ⟨v, k, z, rfl, hz⟩ := key
 exact ⟨z, k, hz⟩
theorem s_containsR {H : Heap} {v : Value} {f : List Rat} {g : FuncId} {P : Rat → Bool} (hv : LV H v f) (hl : f.length ≤ 1000000) (hg : Tells g P) (lk : Nat) :
  q0c prog md lk 66 [v, .func (.func g) #[] #[]] H = some (.bool (f.any P), H) := by
 refine q0a rfl Tryz.func66 rfl rfl ?_
 obtain ⟨z, k, hz⟩ := s_indexR hv hl hg
 rw [← hz]
 simp -dsimp only [go_sem, k]
theorem p_sumZ (lk : Nat) (H : Heap) (p : Nat) (g : FuncId) (cap : List Value) (T : Nat → Int) (hp : 2 ≤ p) (hp2 : p ≤ 23) (hT : ∀ b, b < p → -1000 ≤ T b ∧ T b ≤ 1000)
  (hg : ∀ (lk : Nat) (H' : Heap) (b : Nat), Ext H H' → b < p → q0c prog md lk g (.int .i64 (b : Int) :: cap) H' = some (.int .i64 (T b), H')) :
  ∃ v N, q0c prog md lk 57 [.int .i64 (p : Int), .func (.func g) #[] cap.toArray] H = some (v, H ++ N) ∧ ∃ a, v = .slice a (q2m (difL T (T (p - 1)) (p - 1)) (p - 1)) (q2m (difL T (T (p - 1)) (p - 1)) (p - 1)) ∧ SL (H ++ N) a ((difL T (T (p - 1)) (p - 1)).take (q2m (difL T (T (p - 1)) (p - 1)) (p - 1))) := by
 refine q3m rfl Tryz.func57 rfl ?_
 have hl := fun lk => hg lk H (p - 1) (Ext.refl _) (by omega)
 have e1 : IntKind.i64.wrap ((p : Int) - 1) = ((p - 1 : Nat) : Int) := by rw [w64 (by omega) (by omega)]; omega
 simp -dsimp only [go_sem, e1, hl]
 obtain ⟨la, hla⟩ : ∃ la, la = T (p - 1) := ⟨_, rfl⟩
 rw [← hla]
 have hlb := hT (p - 1) (by omega)
 rw [← hla] at hlb
 refine q0h (m := fun (s : Nat × Option Addr) => p - s.1) (I := fun s σ H' => s.1 ≤ p - 1 ∧ Ext H H' ∧ Own H.length H' s.2 (difL T la s.1) ∧ (s.2 = none ↔ difL T la s.1 = []) ∧ σ 0 = .int .i64 (p : Int) ∧ σ 1 = .func (.func g) #[] cap.toArray ∧ σ 5 = .int .i64 la ∧ σ 6 = .slice s.2 s.1 s.1 ∧ σ 13 = .int .i64 ((p - 1 : Nat) : Int) ∧ σ 14 = .int .i64 (s.1 : Int)) (0, none) ⟨Nat.zero_le _, Ext.refl _, Own.nil, by simp [difL], rfl, rfl, rfl, rfl, rfl, rfl⟩ ?_
 rintro ⟨i, a2⟩ σ H' ⟨h1, hE, hO, hN, s0, s1, s5, s6, s13, s14⟩
 simp only at h1 hO hN s6 s14
 have hlen := q3h T la i
 by_cases hi : i < p - 1
 ·have f1 : ((i : Int) < ((p - 1 : Nat) : Int)) = True := eq_true (by omega)
  have hTi := hT i (by omega)
  have hlo := hE.le
  have e7 : IntKind.i64.wrap ((i : Int) + 1) = ((i + 1 : Nat) : Int) := by rw [w64 (by omega) (by omega)]; omega
  have e8 := wI64 (n := T i - la) (by omega) (by omega)
  have hgi := fun lk => hg lk H' i hE (by omega)
  have hk := fun lk H' => c_Int lk H' (T i - la) ⟨by omega, by omega⟩
  have hds := difL_succ T la i
  generalize ((T i - la : Int) : Rat) = r at hk hds
  have hap := fun t t2 => ap_own (P := prog) (lk := H.length) (t := t) (t2 := t2) hO (Nat.le_refl _) hlen.symm [.bool (decide (r.num < 0)), .string (mkS (q0b r.num.natAbs)), .string (mkS (q0b r.den))] 3 rfl rfl
  have hO2 := q9p (lo := H.length) (H := H') (a := a2) (l := difL T la i) r [⟨[.bool (decide (r.num < 0)), .string (mkS (q0b r.num.natAbs)), .string (mkS (q0b r.den))], 3, false⟩] (by simp; omega)
  have hE2 : Ext H (kill (H' ++ [⟨[.bool (decide (r.num < 0)), .string (mkS (q0b r.num.natAbs)), .string (mkS (q0b r.den))], 3, false⟩]) a2) := (hO.more _).kill (hE.more _)
  rw [← hds] at hO2
  simp -dsimp only [go_sem, s0, s1, s5, s6, s13, s14, f1, hgi, e8, hk, e7, reps, hap, hlo]
  exact ⟨by omega, next (i + 1, some ⟨H'.length + 1, 0, none⟩) (by show p - (i + 1) < p - i; omega) ⟨by simp only; omega, hE2.more _, hO2, by simp [hds], s0, s1, s5, rfl, s13, rfl⟩⟩
 ·have hi' : i = p - 1 := by omega
  subst hi'
  have htr := fun lk => p_PTrim lk H' a2 (difL T la (p - 1)) (p - 1) hlen.symm (by omega) hO.sl
  have f1 : (((p - 1 : Nat) : Int) < ((p - 1 : Nat) : Int)) = False := eq_false (by omega)
  have hc := compV_take hO (q6v (difL T la (p - 1)) (p - 1)) hlen (w1y (fun x => rfl) _)
  simp -dsimp only [go_sem, s0, s1, s5, s6, s13, s14, f1, htr]
  exact hc
theorem pCk_p9 : ∀ p ∈ P9, pCk ((p : Nat) : Int) = 0 := by decide +kernel
theorem legT_le (p a : Nat) : -1000 ≤ legT p a ∧ legT p a ≤ 1000 := by
 unfold legT
 split
 ·decide
 ·split <;> decide
def gsL (p : Nat) : List Rat := (difL (legT p) (legT p (p - 1)) (p - 1)).take (q2m (difL (legT p) (legT p (p - 1)) (p - 1)) (p - 1))
theorem p_Gauss1 {p a b : Nat} (hp : p ∈ P9) (h2 : p ≠ 2) (ha : a < p) (H : Heap) (hb : q0e H b = some ⟨[.int .i64 (p : Int)], 1, false⟩) (lk : Nat) : q0c prog md lk 58 [.int .i64 (a : Int), .pointer (some ⟨b, 0, none⟩)] H = some (.int .i64 (legT p a), H) := by
 refine q0a rfl Tryz.func58 rfl rfl ?_
 have k := fun lk H => p_resLeg hp h2 ha lk H
 simp -dsimp only [go_sem, hb, k]
theorem w2q {p : Nat} (hp : p ∈ P9) (h2 : p ≠ 2) (H : Heap) : q0m 11 [.int .i64 (p : Int)] H (fun v H' => ∃ w, v = .tuple #[w, .int .i64 0] ∧ LV H' w (gsL p)) := by
 obtain ⟨hp2, hp23⟩ := q3a hp
 refine q1n (by decide) Tryz.func11 rfl ?_
 intro lk hlk
 have kc := fun lk H' => q8z lk H' p
 have h0 : pCk (p : Int) = 0 := pCk_p9 p hp
 rw [h0] at kc
 have f2 : ((p : Int) = 2) = False := eq_false (by omega)
 obtain ⟨H1, hH1⟩ : ∃ H1, H1 = H ++ [⟨[.int .i64 (p : Int)], 1, false⟩] := ⟨_, rfl⟩
 have hb : q0e H1 H.length = some ⟨[.int .i64 (p : Int)], 1, false⟩ := by rw [hH1]; exact q0j _ _
 have hE1 : Ext H H1 := by rw [hH1]; exact Ext.app _ _
 have ks := fun lk => p_sumZ lk H1 p 58 [.pointer (some ⟨H.length, 0, none⟩)] (legT p) hp2 hp23 (fun b _ => legT_le p b) (fun lk' H' b hE hb' => p_Gauss1 hp h2 hb' H' (hE.live hb) lk')
 obtain ⟨v, N, k1, a, rfl, k2⟩ := ks lk
 simp -dsimp only [go_sem, kc, f2]
 rw [← hH1]
 simp -dsimp only [go_sem, k1]
 refine ⟨rfl, hE1.more _, _, rfl, a, ?_, k2⟩
 have : (gsL p).length = q2m (difL (legT p) (legT p (p - 1)) (p - 1)) (p - 1) := by
  unfold gsL
  rw [List.length_take, q3h]
  have := q6v (difL (legT p) (legT p (p - 1)) (p - 1)) (p - 1)
  omega
 rw [this]
theorem p_GaussBad (H : Heap) (p : Int) (h : pCk p ≠ 0) (lk : Nat) : q0c prog md lk 11 [.int .i64 p] H = some (.tuple #[.slice none 0 0, .int .i64 (pCk p)], H ++ [⟨[.int .i64 p], 1, false⟩]) := by
 refine w1s (by decide) (by decide) (by decide) Tryz.func11 rfl ?_
 have kc := fun lk H' => q8z lk H' p
 simp -dsimp only [go_sem, kc, h]
theorem p_Gauss2 (H : Heap) (lk : Nat) : q0c prog md lk 11 [.int .i64 2] H = some (.tuple #[.slice none 0 0, .int .i64 7], H ++ [⟨[.int .i64 2], 1, false⟩]) := by
 refine w1s (by decide) (by decide) (by decide) Tryz.func11 rfl ?_
 have kc := fun lk H' => q8z lk H' 2
 rw [show pCk 2 = 0 from pCk_p9 2 (by decide)] at kc
 simp -dsimp only [go_sem, kc]
theorem p_Coord {p f : Nat} (hp : p ∈ P9) (hf0 : 1 ≤ f) (hf : f ≤ 9223372036854775807) (hc : pCkB p f = 0) {H : Heap} {v : Value} {x : List Rat} (hv : LV H v x) (hx : elE (phiP p) (x.map rq) = 0) (hL : (q0f p f).length ≤ 1000)
  (ok : RdOk (exM (p - 1) (q0f p f) x) (q0f p f).length) :
  q4k 20 [.int .i64 (p : Int), .int .i64 (f : Int), v] H (fun v H' => match q3e (p - 1) (q0f p f) x with
   | none => v = .tuple #[.slice none 0 0, .int .i64 10]
   | some l => if l.any lrg = true then v = .tuple #[.slice none 0 0, .int .i64 4] else ∃ w, v = .tuple #[w, .int .i64 0] ∧ LV H' w l) := by
 obtain ⟨hp2, hp23⟩ := q3a hp
 refine yo_raw (by decide) Tryz.func20 rfl ?_
 intro lk hlk
 have kc := fun lk H' => q1g mdLe (q4e lk H' p f)
 rw [hc] at kc
 simp -dsimp only [go_sem, kc]
 refine q2t (w0l hp H).o hlk ?_
 rintro vm H1 hE1 ⟨c, rfl, hm⟩
 have ke := fun lk => q1g mdLe (p_Element (v := .agg (List.toArray [.slice c (phiP p).length (phiP p).length])) ⟨c, rfl, hm⟩ (hv.ext hE1).unrq (q3u p) (by rw [q1q]; omega) (phiP_sm p) (phiP_form p hp) (by rw [q1q]; omega) lk)
 rw [hx] at ke
 have w1 : IntKind.i64.wrap ((p : Int) - 1) = ((p - 1 : Nat) : Int) := by rw [w64 (by omega) (by omega)]; omega
 simp -dsimp only [go_sem, ke, w1]
 refine q2t (fun lk hl => p_periods hp hf0 hf lk H1 hl) (by have := hE1.le; omega) ?_
 rintro vp H2 hE2 hvp
 have hl1 := hE1.le
 have hl2 := hE2.le
 simp -dsimp only [go_sem]
 refine q2t (p_Express (n := p - 1) hvp (hv.ext (hE1.trans hE2)) (by omega) (by omega) ok).o (by omega) ?_
 rintro v5 H3 hE3 hv5
 cases hx5 : q3e (p - 1) (q0f p f) x with
 | none =>
  rw [hx5] at hv5
  simp only at hv5
  subst hv5
  simp -dsimp only [go_sem]
  exact hE1.trans (hE2.trans hE3)
 | some l =>
  rw [hx5] at hv5
  obtain ⟨w, rfl, hw⟩ := hv5
  have hl : l.length ≤ 1000000 := by
   unfold q3e at hx5
   simp only at hx5
   split at hx5
   ·injection hx5 with hx5
    rw [← hx5, q8g]; omega
   ·cases hx5
  have kl := fun lk => q1g mdLe (s_containsR hw hl (g := 67) (P := lrg) tells_Large lk)
  cases hl : l.any lrg with
  | true =>
   rw [hl] at kl
   simp -dsimp only [go_sem, kl]
   exact ⟨hE1.trans (hE2.trans hE3), by rw [if_pos hl]; trivial⟩
  | false =>
   rw [hl] at kl
   simp -dsimp only [go_sem, kl]
   refine ⟨hE1.trans (hE2.trans hE3), ?_⟩
   rw [if_neg (by rw [hl]; decide)]
   exact ⟨w, rfl, hw⟩
section
variable {lo : Nat} {H : Heap} {v : Value} {M : List (List Rat)} {a : Option Addr} {xs : List Sx} {t te : TypeId}
theorem cells_nones : ∀ n, reps [.slice none 0 0] n = q0g (List.replicate n (⟨none, 0⟩ : Sx))
 | 0 => rfl
 | n + 1 => by
  show [Value.slice none 0 0] ++ reps [.slice none 0 0] n = _
  rw [cells_nones n, List.replicate_succ]; rfl
theorem MGrow.make (n : Nat) : MGrow H.length (H ++ [⟨reps [.slice none 0 0] n, 1, false⟩]) (.slice (some ⟨H.length, 0, none⟩) n n) (List.replicate n []) (some ⟨H.length, 0, none⟩) (List.replicate n ⟨none, 0⟩) := by
 refine ⟨by rw [List.length_replicate], .inr ⟨_, rfl, Nat.le_refl _, by rw [q0j, cells_nones]; rfl⟩, by simp, fun i h1 h2 => ?_⟩
 simp only [List.getElem_replicate]
 exact ⟨rfl, SL.nil⟩
theorem MGrow.put {lk : Nat} (T : RowT t te) (h : MGrow lo H v M a xs) (i : Nat) (hi : i < M.length) (hlk : lk ≤ lo) {c : Option Addr} {r : List Rat} (hr : SL H c r) {p : Value} (hp : q0i prog t v (.int .i64 (i : Int)) = some p) :
  ∃ H2, q3c prog lk H te p (.slice c r.length r.length) = some H2 ∧ MGrow lo H2 v (M.set i r) a (xs.set i ⟨c, r.length⟩) ∧ ∀ H0 : Heap, H0.length ≤ lo → Ext H0 H → Ext H0 H2 := by
 have hxl := h.rows.1
 have hv := h.v
 subst hv
 rcases h.own with ⟨rfl, h0⟩ | ⟨b, rfl, hb, hB⟩
 ·rw [h0] at hxl; simp at hxl; omega
 ·have hs := st_sx (lk := lk) T hB (by omega) i (by omega) ⟨c, r.length⟩ hxl.symm hp
  refine ⟨_, hs, ⟨by rw [List.length_set], .inr ⟨b, rfl, hb, q0x (q0w hB) rfl⟩, by simp [hxl], fun k h1 h2 => ?_⟩, fun H0 hl hE => hE.set (by omega) _⟩
  simp only [List.length_set] at h1 h2
  rw [List.getElem_set, List.getElem_set]
  by_cases hk : i = k
  ·rw [if_pos hk, if_pos hk]
   exact ⟨rfl, hr.setr hB rfl⟩
  ·rw [if_neg hk, if_neg hk]
   obtain ⟨r1, r2⟩ := h.rows.2 k h1 h2
   exact ⟨r1, r2.setr hB rfl⟩
end
def nxA (M P : List (List Rat)) (k : Nat) : List (List Rat) := M.set (k + 1) (pAdd (rw' M (k + 1)) (rw' P k))
def nxS (phi x : List Rat) (P : List (List Rat)) : Nat → List (List Rat)
 | 0 => List.replicate (P.length + 1) []
 | k + 1 => (nxA (nxS phi x P k) P k).set k (pSub (rw' (nxA (nxS phi x P k) P k) k) (pMod (pMul (rw' P k) x) phi))
def plS (phi : List Rat) (L : List (List Rat)) : Nat → List (List Rat)
 | 0 => [[1]]
 | i + 1 => nxS phi (rw' L i) (plS phi L i) (plS phi L i).length
def polyL (p f : Nat) : List Rat := (plS (phiP p) (q0f p f) (q0f p f).length).map (fun c => qf c 0)
theorem nxA_len (M P : List (List Rat)) (k : Nat) : (nxA M P k).length = M.length := by simp [nxA]
theorem w0o (phi x : List Rat) (P : List (List Rat)) : ∀ k, (nxS phi x P k).length = P.length + 1
 | 0 => by simp [nxS]
 | k + 1 => by rw [nxS, List.length_set, nxA_len, w0o phi x P k]
theorem plS_len (phi : List Rat) (L : List (List Rat)) : ∀ i, (plS phi L i).length = i + 1
 | 0 => rfl
 | i + 1 => by rw [plS, w0o, plS_len phi L i]
structure NxOk (phi x : List Rat) (P : List (List Rat)) : Prop where
 l : ∀ k, k < P.length → (rw' P k).length ≤ 1000 ∧ (rw' (nxS phi x P k) (k + 1)).length ≤ 1000 ∧ (rw' (nxA (nxS phi x P k) P k) k).length ≤ 1000 ∧ (pMod (pMul (rw' P k) x) phi).length ≤ 1000
 xl : x.length ≤ 1000
 s : ∀ k, k < P.length → SzL (rw' P k) ∧ SzL (rw' (nxS phi x P k) (k + 1)) ∧ SzL (rw' (nxA (nxS phi x P k) P k) k) ∧ SzL (pMod (pMul (rw' P k) x) phi)
 mu : ∀ k, k < P.length → MulOk (rw' P k) x
 nr : ∀ k, k < P.length → Nrm (pMul (rw' P k) x)
 d : ∀ k, k < P.length → XdOk (pMul (rw' P k) x) phi
theorem p_Poly {p f : Nat} (hp : p ∈ P9) (hf0 : 1 ≤ f) (hf : f ≤ 9223372036854775807) (hc : pCkB p f = 0) (hL : (q0f p f).length ≤ 1000) (ok : ∀ i, i < (q0f p f).length → NxOk (phiP p) (rw' (q0f p f) i) (plS (phiP p) (q0f p f) i)) (H : Heap) :
  q4k 9 [.int .i64 (p : Int), .int .i64 (f : Int)] H (fun v H' => ∃ w, v = .tuple #[w, .int .i64 0] ∧ LV H' w (polyL p f)) := by
 obtain ⟨hp2, hp23⟩ := q3a hp
 refine yo_raw (by decide) Tryz.func9 rfl ?_
 intro lk hlk
 have kc := fun lk H' => q1g mdLe (q4e lk H' p f)
 rw [hc] at kc
 simp -dsimp only [go_sem, kc]
 refine q2t (w0l hp H).o hlk ?_
 rintro vm H1 hE1 hm
 have hl1 := hE1.le
 simp -dsimp only [go_sem, reps]
 obtain ⟨H2, hH2⟩ : ∃ H2, H2 = H1 ++ [⟨[.int .i64 1], 1, false⟩] := ⟨_, rfl⟩
 have hE2 : Ext H1 H2 := by rw [hH2]; exact Ext.app _ _
 have hl2 := hE2.le
 have hv1 : LV H2 (.slice (some ⟨H1.length, 0, none⟩) 1 1) [(⟨1⟩ : MI)] := ⟨_, rfl, .inr ⟨H1.length, 0, _, rfl, by rw [hH2]; exact q0j _ _, rfl, rfl, Nat.le_refl _⟩⟩
 rw [← hH2]
 refine q2t (p_POf hv1 (by decide) (fun x hx => by rw [List.mem_singleton.1 hx]; decide)).o (by omega) ?_
 rintro v2 H3 hE3 hv2
 rw [show pOf [(⟨1⟩ : MI)] = [1] by decide +kernel] at hv2
 obtain ⟨c2, rfl, hs2⟩ := hv2
 have hl3 := hE3.le
 simp -dsimp only [go_sem, reps]
 obtain ⟨H4, hH4⟩ : ∃ H4, H4 = H3 ++ [⟨[.slice c2 1 1], 1, false⟩] := ⟨_, rfl⟩
 have hE4 : Ext H3 H4 := by rw [hH4]; exact Ext.app _ _
 have hl4 := hE4.le
 have hP0 : MV H4 (.slice (some ⟨H3.length, 0, none⟩) 1 1) [[1]] := ⟨_, [⟨c2, 1⟩], rfl, .inr ⟨H3.length, 0, _, rfl, by rw [hH4]; exact q0j _ _, rfl, rfl, Nat.le_refl _⟩, rfl, fun i h1 h2 => by
  have : i = 0 := by simp at h1; omega
  subst this
  exact ⟨rfl, hE4.sl hs2⟩⟩
 rw [← hH4]
 refine q2t (fun lk hl => p_periods hp hf0 hf lk H4 hl) (by omega) ?_
 rintro vp H5 hE5 hv
 obtain ⟨av, rfl⟩ := hv.is
 have hl5 := hE5.le
 unfold polyL
 obtain ⟨L, hLe⟩ : ∃ L, L = q0f p f := ⟨_, rfl⟩
 obtain ⟨phi, hphi⟩ : ∃ phi, phi = phiP p := ⟨_, rfl⟩
 have hphl : phi.length = p := by rw [hphi]; exact q1q p
 have hpn : Nrm phi := by rw [hphi]; exact q3u p
 have hp0 : phi ≠ [] := by rw [hphi]; exact q5p (by omega)
 rw [← hLe] at hL ok hv ⊢
 rw [← hphi] at ok hm ⊢
 have hm5 := hm.ext (hE2.trans (hE3.trans (hE4.trans hE5)))
 simp -dsimp only [go_sem]
 refine q2g (m := fun (s : Nat × Value) => L.length - s.1) (I := fun s σ H' => s.1 ≤ L.length ∧ Ext H5 H' ∧ MV H' s.2 (plS phi L s.1) ∧ σ 7 = vm ∧ σ 8 = s.2 ∧ σ 30 = .slice av L.length L.length ∧ σ 31 = .int .i64 (L.length : Int) ∧ σ 32 = .int .i64 (s.1 : Int)) (0, .slice (some ⟨H3.length, 0, none⟩) 1 1) ⟨Nat.zero_le _, Ext.refl _, hP0.ext hE5, rfl, rfl, rfl, rfl, rfl⟩ ?_
 rintro ⟨i, vo⟩ σ H' ⟨h1, hE, hP, s7, s8, s30, s31, s32⟩
 simp only at h1 hP s8 s32
 have hlo := hE.le
 have hPl := plS_len phi L i
 by_cases hi : i < L.length
 ·have f1 := ltI hi
  have e7 := q1m hi (by omega)
  obtain ⟨p1, d1, q1, q2, q3⟩ := hv.ix q5n i hi
  have q2 := q2 H' hE
  rw [← q1o hi] at q2 q3
  have hok := ok i hi
  generalize hX : rw' L i = X at q2 q3 hok
  have hnext : plS phi L (i + 1) = nxS phi X (plS phi L i) (plS phi L i).length := by rw [plS, hX]
  obtain ⟨P, hPe⟩ : ∃ P, P = plS phi L i := ⟨_, rfl⟩
  rw [← hPe] at hP hPl hok hnext
  obtain ⟨ap, rfl⟩ := hP.is
  obtain ⟨m1, m2, m3, m4⟩ := mk64 (n := P.length + 1) (by omega)
  have w1 : IntKind.i64.wrap ((P.length : Int) + 1) = ((P.length + 1 : Nat) : Int) := by rw [w64 (by omega) (by omega)]; omega
  have m5 : ((24 : Nat) : Int) * ((P.length + 1 : Nat) : Int) ≤ 281474976710656 := by omega
  simp -dsimp only [go_sem, s7, s8, s30, s31, s32, f1, q1, q2, w1, m3, m4, m5]
  have hG0 := MGrow.make (H := H') (P.length + 1)
  refine q2g (m := fun (s : Nat × List Sx × Option Addr) => P.length - s.1) (I := fun s σ H2 => s.1 ≤ P.length ∧ Ext H' H2 ∧ MGrow H'.length H2 (.slice s.2.2 (P.length + 1) (P.length + 1)) (nxS phi X P s.1) s.2.2 s.2.1 ∧ σ 7 = vm ∧ σ 30 = .slice av L.length L.length ∧ σ 31 = .int .i64 (L.length : Int) ∧ σ 32 = .int .i64 (i : Int) ∧ σ 10 = .slice d1 X.length X.length ∧ σ 11 = .slice s.2.2 (P.length + 1) (P.length + 1) ∧ σ 40 = .slice ap P.length P.length ∧ σ 41 = .int .i64 (P.length : Int) ∧ σ 42 = .int .i64 (s.1 : Int)) (0, List.replicate (P.length + 1) ⟨none, 0⟩, some ⟨H'.length, 0, none⟩) ⟨Nat.zero_le _, Ext.app _ _, hG0, s7, s30, s31, s32, rfl, rfl, rfl, rfl, rfl⟩ ?_
  clear s7 s8 s30 s31 s32 σ
  rintro ⟨k, xs, na⟩ σ Hk ⟨h2, hEk, hG, s7, s30, s31, s32, s10, s11, s40, s41, s42⟩
  simp only at h2 hG s11 s42
  have hlk2 := hEk.le
  by_cases hk : k < P.length
  ·have f2 := ltI hk
   have e8 := q1m hk (by omega)
   obtain ⟨n1, n2, n3, n4⟩ := hok.l k hk
   have nx := hok.xl
   obtain ⟨z1, z2, z3, z4⟩ := hok.s k hk
   have hml := w0o phi X P k
   obtain ⟨pc, dc, c1, c2', c3⟩ := hP.ix q5n k hk
   have c2' := c2' Hk hEk
   rw [← q1o hk] at c2' c3
   obtain ⟨pa, da, a1, a2, a3⟩ := hG.mv.ix q5n (k + 1) (by omega)
   have a2 := a2 Hk (Ext.refl _)
   rw [← q1o (by omega)] at a2 a3
   have w2 : IntKind.i64.wrap ((k : Int) + 1) = ((k + 1 : Nat) : Int) := by rw [w64 (by omega) (by omega)]; omega
   simp -dsimp only [go_sem, s7, s30, s31, s32, s10, s11, s40, s41, s42, f2, c1, c2', w2, a1, a2]
   refine q2t (p_PAdd ⟨da, rfl, a3⟩ ⟨dc, rfl, hEk.sl c3⟩ z2 z1 (by omega) (by omega)).o (by omega) ?_
   rintro v6 H6 hE6 ⟨e6, rfl, hs6⟩
   have hl6 := hE6.le
   have hG6 := hG.ext hE6
   obtain ⟨H7, st7, hG7, hx7⟩ := hG6.put (lk := lk) q5n (k + 1) (by omega) (by omega) hs6 a1
   have hE7 := hx7 H' (Nat.le_refl _) (hEk.trans hE6)
   have hl7 := hE7.le
   have hEk7 : ∀ {c : Option Addr} {l : List Rat}, SL H' c l → SL H7 c l := fun hs => hE7.sl hs
   have hGA : nxA (nxS phi X P k) P k = (nxS phi X P k).set (k + 1) (pAdd (rw' (nxS phi X P k) (k + 1)) (rw' P k)) := rfl
   rw [← hGA] at hG7
   have hAl := nxA_len (nxS phi X P k) P k
   obtain ⟨pb, db, b1, b2, b3⟩ := hG7.mv.ix q5n k (by omega)
   have b2 := b2 H7 (Ext.refl _)
   rw [← q1o (by omega)] at b2 b3
   simp -dsimp only [go_sem, a1, st7, s7, s30, s31, s32, s10, s11, s40, s41, s42, b1, b2]
   refine q2t (p_PMul ⟨dc, rfl, hEk7 c3⟩ ⟨d1, rfl, hEk7 (hE.sl q3)⟩ (hok.mu k hk) (by omega) (by omega)).o (by omega) ?_
   rintro v8 H8 hE8 hv8
   have hl8 := hE8.le
   simp -dsimp only [go_sem, s7]
   refine q2t (p_Rest hv8 (hm5.ext (hE.trans (hE7.trans hE8))) (hok.nr k hk) hp0 hpn (hok.d k hk) (by have := q7a (rw' P k) X; omega) (by omega)).o (by omega) ?_
   rintro v9 H9 hE9 hv9
   have hl9 := hE9.le
   simp -dsimp only [go_sem]
   refine q2t (p_PSubS ⟨db, rfl, (hE8.trans hE9).sl b3⟩ hv9 z3 z4 (by omega) (by omega)).o (by omega) ?_
   rintro v10 H10 hE10 ⟨e10, rfl, hs10⟩
   have hl10 := hE10.le
   have hG10 := hG7.ext ((hE8.trans hE9).trans hE10)
   obtain ⟨H11, st11, hG11, hx11⟩ := hG10.put (lk := lk) q5n k (by omega) (by omega) hs10 b1
   have hE11 := hx11 H' (Nat.le_refl _) (hE7.trans ((hE8.trans hE9).trans hE10))
   simp -dsimp only [go_sem, b1, st11, s7, s30, s31, s32, s10, s11, s40, s41, s42, e8]
   exact next (k + 1, _, _) (by show P.length - (k + 1) < P.length - k; omega) ⟨hk, hE11, hG11, s7, s30, s31, s32, s10, s11, s40, s41, rfl⟩
  ·have hk' : k = P.length := by omega
   subst hk'
   have f2 := nltI P.length
   have hmv := hG.mv
   rw [← hnext] at hmv
   simp -dsimp only [go_sem, s7, s30, s31, s32, s10, s11, s40, s41, s42, f2, e7]
   exact next (i + 1, _) (by show L.length - (i + 1) < L.length - i; omega) ⟨hi, hE.trans hEk, hmv, s7, rfl, s30, s31, rfl⟩
 ·have hi' : i = L.length := by omega
  subst hi'
  have f1 := nltI L.length
  obtain ⟨P, hPe⟩ : ∃ P, P = plS phi L L.length := ⟨_, rfl⟩
  rw [← hPe] at hP hPl ⊢
  obtain ⟨ap, rfl⟩ := hP.is
  obtain ⟨F, hF⟩ : ∃ F : Nat → Rat, F = fun k => qf (rw' P k) 0 := ⟨_, rfl⟩
  have hmap : P.map (fun c => qf c 0) = mapR F P.length := by
   refine List.ext_getElem (by simp [mapR]) fun k k1 k2 => ?_
   rw [List.length_map] at k1
   rw [q1u, List.getElem_map, hF]
   show _ = qf (rw' P k) 0
   rw [q1o k1]
  rw [hmap]
  simp -dsimp only [go_sem, s7, s8, s30, s31, s32, f1]
  refine q2g (m := fun (s : Nat × Option Addr) => P.length - s.1) (I := fun s σ H2 => s.1 ≤ P.length ∧ Ext H' H2 ∧ Own H'.length H2 s.2 (mapR F s.1) ∧ σ 14 = .slice s.2 s.1 s.1 ∧ σ 74 = .slice ap P.length P.length ∧ σ 75 = .int .i64 (P.length : Int) ∧ σ 76 = .int .i64 (s.1 : Int)) (0, none) ⟨Nat.zero_le _, Ext.refl _, Own.nil, rfl, rfl, rfl, rfl⟩ ?_
  clear s7 s8 s30 s31 s32 σ
  rintro ⟨k, c⟩ σ H2' ⟨h2, hE2', hO, s14, s74, s75, s76⟩
  simp only at h2 hO s14 s76
  have hlen := q0d F k
  have hlo2 := hE2'.le
  by_cases hk : k < P.length
  ·have f2 := ltI hk
   have e8 := q1m hk (by omega)
   obtain ⟨pc, dc, c1, c2', c3⟩ := hP.ix q5n k hk
   have c2' := c2' H2' hE2'
   rw [← q1o hk] at c2' c3
   have kq := w0m (H := H2') (v := .slice dc (rw' P k).length (rw' P k).length) (f := rw' P k) ⟨dc, rfl, hE2'.sl c3⟩ 0
   rw [show qf (rw' P k) 0 = F k from (congrFun hF k).symm] at kq
   replace kq := fun lk => q1g mdLe (kq lk)
   simp only [Int.natCast_zero] at kq
   have hap := q5w (lk := lk) (t := 23) (t2 := 23) q0n q0n hO (by omega) hlen.symm (by omega) (F k)
   have hO2 := q2w hE2' hO (F k) [⟨rC (F k), 3, false⟩]
   rw [← q2d] at hO2
   simp -dsimp only [go_sem, s14, s74, s75, s76, f2, c1, c2', kq, reps, hap, e8]
   exact next (k + 1, _) (by show P.length - (k + 1) < P.length - k; omega) ⟨hk, q2r hE2' hO _ _, hO2, rfl, s74, s75, rfl⟩
  ·have hk' : k = P.length := by omega
   subst hk'
   have f2 := nltI P.length
   simp -dsimp only [go_sem, s14, s74, s75, s76, f2]
   exact ⟨hE1.trans (hE2.trans (hE3.trans (hE4.trans (hE5.trans (hE.trans hE2'))))), _, rfl, _, by rw [q0d], hO.sl⟩
theorem r5_isZero (lk : Nat) (H : Heap) (q : Rat) : q0c prog md lk 187 [vR q] H = some (.bool (decide (q = 0)), H) := by
 refine q0a rfl Tryz.func187 rfl rfl ?_
 have k := fun lk H' => r3_Sign lk H' q
 have s := sgn_zero q
 have e : decide (sgn q.num = 0) = decide (q = 0) := by simp only [s]
 rw [← e]
 simp -dsimp only [go_sem, k]
theorem scl_mapR (r : List Rat) (c : Rat) : scl r c = mapR (fun l => qf r l * c) r.length := by
 unfold scl sclU
 exact q1w fun i hi => by rw [if_pos hi]
theorem elm_mapR (r p : List Rat) (d : Rat) : elm r p d = mapR (fun l => qf r l - d * qf p l) r.length := by
 unfold elm elU
 exact q1w fun i hi => by rw [if_pos hi]
theorem r5_scaled {H : Heap} {v : Value} {f : List Rat} {c : Rat} (hv : LV H v f) (zf : SzL f) (zc : Sz c) (lf : f.length ≤ 1000000) :
  q0m 188 [v, vR c] H (fun v H' => OV H.length H' v (scl f c)) := by
 obtain ⟨a, rfl, hs⟩ := hv
 refine q1n (by decide) Tryz.func188 rfl ?_
 intro lk hlk
 simp -dsimp only [go_sem]
 rw [scl_mapR]
 obtain ⟨F, hF⟩ : ∃ F : Nat → Rat, F = fun i => qf f i * c := ⟨_, rfl⟩
 rw [← hF]
 obtain ⟨H1, hH1⟩ : ∃ H1, H1 = H ++ [⟨rC c, 3, false⟩] := ⟨_, rfl⟩
 have hE0 : Ext H H1 := by rw [hH1]; exact Ext.app _ _
 have hb : q0e H1 H.length = some ⟨rC c, 3, false⟩ := by rw [hH1]; exact q0j _ _
 have hl0 := hE0.le
 rw [← hH1]
 refine q0h (m := fun (s : Nat × Option Addr) => f.length - s.1) (I := fun s σ H' => s.1 ≤ f.length ∧ Ext H1 H' ∧ Own H1.length H' s.2 (mapR F s.1) ∧ σ 3 = .pointer (some ⟨H.length, 0, none⟩) ∧ σ 8 = .slice a f.length f.length ∧ σ 9 = .int .i64 (f.length : Int) ∧ σ 5 = .slice s.2 s.1 s.1 ∧ σ 10 = .int .i64 (s.1 : Int)) (0, none) ⟨Nat.zero_le _, Ext.refl _, Own.nil, rfl, rfl, rfl, rfl, rfl⟩ ?_
 rintro ⟨i, c2⟩ σ H' ⟨h1, hE, hO, s3, s8, s9, s5, s10⟩
 simp only at h1 hO s5 s10
 have hlen := q0d F i
 by_cases hi : i < f.length
 ·have f1 : ((i : Int) < (f.length : Int)) = True := eq_true (by omega)
  have e7 : IntKind.i64.wrap ((i : Int) + 1) = ((i + 1 : Nat) : Int) := by rw [w64 (by omega) (by omega)]; omega
  obtain ⟨p, hp, hld⟩ := hs.ix i hi q0o
  have hld := hld H' (hE0.trans hE)
  have hb' := fun N => q0u (N := N) (hE.live hb)
  have k3 := fun lk H' => w3l lk H' f[i] c (zf.get hi) zc
  have hFi : f[i] * c = F i := by rw [hF, ← q1y hi]
  rw [hFi] at k3
  have hap := ap_rat' (lk := lk) (t := 22) (t2 := 22) q0o q0o hO (by omega) hlen.symm (by omega) (F i) ⟨rC f[i], 3, false⟩
  have hO2 := q2w hE hO (F i) [⟨rC f[i], 3, false⟩, ⟨rC (F i), 3, false⟩]
  rw [← q2d] at hO2
  simp -dsimp only [go_sem, s3, s5, s8, s9, s10, f1, hp, hld, hb', k3, reps, hap, e7]
  refine ⟨by have := hE.le; omega, ?_⟩
  exact next (i + 1, _) (by show f.length - (i + 1) < f.length - i; omega) ⟨hi, q2r hE hO _ _, hO2, s3, s8, s9, rfl, rfl⟩
 ·have hi' : i = f.length := by omega
  subst hi'
  have f1 : ((f.length : Int) < (f.length : Int)) = False := eq_false (by omega)
  simp -dsimp only [go_sem, s3, s5, s8, s9, s10, f1]
  exact ⟨hE0.trans hE, _, by rw [hlen], hO.low hl0⟩
def wo (r p : List Rat) (k : Nat) : List Rat := if qf r k = 0 then r else elm r p (qf r k)
theorem wo_len (r p : List Rat) (k : Nat) : (wo r p k).length = r.length := by
 unfold wo; split
 ·rfl
 ·unfold elm; rw [elU_len]
theorem r5_without {H : Heap} {v w : Value} {r p : List Rat} {k : Nat} (hv : LV H v r) (hw : LV H w p) (hk : k < r.length) (hp : r.length ≤ p.length) (lr : r.length ≤ 1000000) (zr : SzL r) (zp : SzL p) (zm : ∀ i, Sz (qf r k * qf p i)) :
  q0m 189 [v, w, .int .i64 (k : Int)] H (fun v H' => LV H' v (wo r p k)) := by
 obtain ⟨a, rfl, hs⟩ := hv
 obtain ⟨b, rfl, ht⟩ := hw
 refine q1n (by decide) Tryz.func189 rfl ?_
 intro lk hlk
 obtain ⟨q, q1, q2⟩ := hs.ix k hk q0o
 rw [← q1y hk] at q2
 obtain ⟨d, hd⟩ : ∃ d, d = qf r k := ⟨_, rfl⟩
 rw [← hd] at zm q2
 have q2' := q2 H (Ext.refl _)
 obtain ⟨H1, hH1⟩ : ∃ H1, H1 = H ++ [⟨rC d, 3, false⟩] := ⟨_, rfl⟩
 have hE0 : Ext H H1 := by rw [hH1]; exact Ext.app _ _
 have hb : q0e H1 H.length = some ⟨rC d, 3, false⟩ := by rw [hH1]; exact q0j _ _
 have hl0 := hE0.le
 have kz := fun lk H' => r5_isZero lk H' d
 unfold wo
 rw [← hd]
 by_cases hz : d = 0
 ·have hz' := decide_eq_true hz
  rw [hz'] at kz
  rw [if_pos hz]
  simp -dsimp only [go_sem, q1, q2']
  refine ⟨by omega, ?_⟩
  rw [← hH1]
  simp -dsimp only [go_sem, hb, kz]
  exact ⟨hE0, a, rfl, hE0.sl hs⟩
 ·have hz' := decide_eq_false hz
  rw [hz'] at kz
  rw [if_neg hz, elm_mapR]
  obtain ⟨F, hF⟩ : ∃ F : Nat → Rat, F = fun i => qf r i - d * qf p i := ⟨_, rfl⟩
  rw [← hF]
  simp -dsimp only [go_sem, q1, q2']
  refine ⟨by omega, ?_⟩
  rw [← hH1]
  simp -dsimp only [go_sem, hb, kz]
  refine q0h (m := fun (s : Nat × Option Addr) => r.length - s.1) (I := fun s σ H' => s.1 ≤ r.length ∧ Ext H1 H' ∧ Own H1.length H' s.2 (mapR F s.1) ∧ σ 0 = .slice a r.length r.length ∧ σ 1 = .slice b p.length p.length ∧ σ 7 = .pointer (some ⟨H.length, 0, none⟩) ∧ σ 18 = .int .i64 (r.length : Int) ∧ σ 8 = .slice s.2 s.1 s.1 ∧ σ 19 = .int .i64 (s.1 : Int)) (0, none) ⟨Nat.zero_le _, Ext.refl _, Own.nil, rfl, rfl, rfl, rfl, rfl, rfl⟩ ?_
  rintro ⟨i, c2⟩ σ H' ⟨h1, hE, hO, s0, s1, s7, s18, s8, s19⟩
  simp only at h1 hO s8 s19
  have hlen := q0d F i
  by_cases hi : i < r.length
  ·have f1 := ltI hi
   have e7 := q1m hi lr
   obtain ⟨p1, x1, x2⟩ := hs.ix i hi q0o
   obtain ⟨p2, y1, y2⟩ := ht.ix i (by omega) q0o
   have x2 := x2 H' (hE0.trans hE)
   have y2 := y2 H' (hE0.trans hE)
   have hb' := hE.live hb
   have k1 := fun lk H' => w3l lk H' d p[i] (by rw [hd]; exact zr.qf k) (zp.get (by omega))
   have k2 := fun lk H' => r3_Sub lk H' r[i] (d * p[i]) (zr.get hi) (by have := zm i; rw [q1y (by omega)] at this; exact this)
   have hFi : r[i] - d * p[i] = F i := by
    have h5 : F i = qf r i - d * qf p i := congrFun hF i
    rw [h5, q1y hi, q1y (f := p) (by omega)]
   rw [hFi] at k2
   have hap := q5w (lk := lk) (t := 22) (t2 := 22) q0o q0o hO (by omega) hlen.symm (by omega) (F i)
   have hO2 := q2w hE hO (F i) [⟨rC (F i), 3, false⟩]
   rw [← q2d] at hO2
   simp -dsimp only [go_sem, s0, s1, s7, s18, s8, s19, f1, x1, x2, y1, y2, hb', k1, k2, reps, hap, e7]
   exact next (i + 1, _) (by show r.length - (i + 1) < r.length - i; omega) ⟨hi, q2r hE hO _ _, hO2, s0, s1, s7, s18, rfl, rfl⟩
  ·have hi' : i = r.length := by omega
   subst hi'
   have f1 := nltI r.length
   simp -dsimp only [go_sem, s0, s1, s7, s18, s8, s19, f1]
   exact ⟨hE0.trans hE, _, by rw [hlen], hO.sl⟩
theorem misN_get (P : List Nat) (i : Nat) (h : i < (misN P).length) : (misN P)[i] = ⟨((P[i]'(by rw [q4o] at h; exact h) : Nat) : Int)⟩ := by simp [misN, mis]
def pvAt (P : List Nat) (k : Nat) : Nat := if k ∈ P then P.idxOf k else 0
theorem r5_isPivot {H : Heap} {v : Value} {P : List Nat} (hv : LV H v (misN P)) (k : Nat) (lP : P.length ≤ 1000000) (lk : Nat) :
  q0c prog md lk 128 [v, .int .i64 (k : Int)] H = some (.tuple #[.int .i64 (pvAt P k : Int), .bool (decide (k ∈ P))], H) := by
 obtain ⟨a, rfl, hs⟩ := hv
 refine q0a rfl Tryz.func128 rfl rfl ?_
 have hml := q4o P
 rw [hml]
 simp -dsimp only [go_sem]
 refine q0h (m := fun (i : Nat) => P.length - i) (I := fun i σ H' => i ≤ P.length ∧ H' = H ∧ k ∉ P.take i ∧ σ 1 = .int .i64 (k : Int) ∧ σ 8 = .slice a P.length P.length ∧ σ 9 = .int .i64 (P.length : Int) ∧ σ 10 = .int .i64 (i : Int)) 0 ⟨Nat.zero_le _, rfl, by simp, rfl, rfl, rfl, rfl⟩ ?_
 rintro i σ H' ⟨h1, rfl, h2, s1, s8, s9, s10⟩
 by_cases hi : i < P.length
 ·have f1 := ltI hi
  have e7 := q1m hi lP
  obtain ⟨b, o, B, rfl, hB, hz, hg⟩ := hs.get1 rfl i (by omega) _ rfl
  rw [misN_get] at hg
  simp only at hg
  by_cases hk : P[i] = k
  ·have f2 : ((P[i] : Int) = (k : Int)) = True := eq_true (by omega)
   have hm : k ∈ P := by rw [← hk]; exact List.getElem_mem hi
   have hix : pvAt P k = i := by
    unfold pvAt
    rw [if_pos hm]
    have h3 := List.take_append_drop i P
    have h4 : P.drop i = k :: P.drop (i + 1) := by rw [List.drop_eq_getElem_cons hi, hk]
    rw [← h3, List.idxOf_append, if_neg h2, h4]
    simp; omega
   rw [hix, decide_eq_true hm]
   simp -dsimp only [go_sem, s1, s8, s9, s10, f1, hi, hB, hz, hg, f2]
  ·have f2 : ((P[i] : Int) = (k : Int)) = False := eq_false (by omega)
   simp -dsimp only [go_sem, s1, s8, s9, s10, f1, hi, hB, hz, hg, f2, e7]
   refine next (i + 1) (by show P.length - (i + 1) < P.length - i; omega) ⟨hi, rfl, ?_, s1, s8, s9, rfl⟩
   rw [List.take_add_one, List.getElem?_eq_getElem hi]
   simp only [Option.toList_some, List.mem_append, List.mem_singleton]
   rintro (h | h)
   ·exact h2 h
   ·exact hk h.symm
 ·have hi' : i = P.length := by omega
  subst hi'
  rw [List.take_length] at h2
  have f1 := nltI P.length
  unfold pvAt
  rw [if_neg h2, decide_eq_false h2]
  simp -dsimp only [go_sem, s1, s8, s9, s10, f1]
def q8i (R : List (List Rat)) (i k : Nat) : List Rat := scl (rw' R i) (qf (rw' R i) k)⁻¹
def reL (R : List (List Rat)) (p : List Rat) (k at' n : Nat) : List (List Rat) := ((List.range n).filter (· != at')).map fun j => wo (rw' R j) p k
def dnL (D : List (List Rat)) (p : List Rat) (k n : Nat) : List (List Rat) := (List.range D.length).map fun j => if j < n then wo (rw' D j) p k else rw' D j
abbrev EcT := List (List Rat) × List (List Rat) × List Nat
def q7l (s : EcT) (k : Nat) : EcT :=
 if fnz s.1 k s.1.length 0 = s.1.length then s
 else (reL s.1 (q8i s.1 (fnz s.1 k s.1.length 0) k) k (fnz s.1 k s.1.length 0) s.1.length, dnL s.2.1 (q8i s.1 (fnz s.1 k s.1.length 0) k) k s.2.1.length ++ [q8i s.1 (fnz s.1 k s.1.length 0) k], s.2.2 ++ [k])
def ecS (M : List (List Rat)) : Nat → EcT
 | 0 => (M, [], [])
 | k + 1 => q7l (ecS M k) k
theorem reL_succ (R : List (List Rat)) (p : List Rat) (k at' n : Nat) : reL R p k at' (n + 1) = if n = at' then reL R p k at' n else reL R p k at' n ++ [wo (rw' R n) p k] := by
 unfold reL
 rw [List.range_succ, List.filter_append]
 by_cases h : n = at'
 ·rw [if_pos h, h]; simp
 ·rw [if_neg h]; simp [h]
theorem q5f (D : List (List Rat)) (p : List Rat) (k n : Nat) : (dnL D p k n).length = D.length := by simp [dnL]
theorem dnL_row (D : List (List Rat)) (p : List Rat) (k n j : Nat) (h : j < D.length) : rw' (dnL D p k n) j = if j < n then wo (rw' D j) p k else rw' D j := by
 rw [q1o (by rw [q5f]; exact h)]; simp [dnL]
theorem dnL_zero (D : List (List Rat)) (p : List Rat) (k : Nat) : dnL D p k 0 = D := q9i (q5f _ _ _ _) fun i hi => by
 rw [q5f] at hi
 rw [dnL_row _ _ _ _ _ hi, if_neg (by omega)]
theorem dnL_set (D : List (List Rat)) (p : List Rat) (k n : Nat) (h : n < D.length) : (dnL D p k n).set n (wo (rw' D n) p k) = dnL D p k (n + 1) := q9i (by rw [List.length_set, q5f, q5f]) fun i hi => by
 rw [List.length_set, q5f] at hi
 rw [q5y _ _ _ _ (by rw [q5f]; exact h), dnL_row _ _ _ _ _ hi, dnL_row _ _ _ _ _ hi]
 by_cases hin : i = n
 ·subst hin; rw [if_pos rfl, if_pos (by omega)]
 ·rw [if_neg hin]
  by_cases h2 : i < n
  ·rw [if_pos h2, if_pos (by omega)]
  ·rw [if_neg h2, if_neg (by omega)]
theorem fnz_last (M : List (List Rat)) (k : Nat) : ∀ m i, fnz M k (m + 1) i = if fnz M k m i = i + m then (if qf (rw' M (i + m)) k = 0 then i + m + 1 else i + m) else fnz M k m i
 | 0, i => by simp [fnz]
 | m + 1, i => by
  have ih := fnz_last M k m (i + 1)
  rw [fnz]
  by_cases h : qf (rw' M i) k = 0
  ·rw [if_pos h, ih]
   have e : fnz M k (m + 1) i = fnz M k m (i + 1) := by rw [fnz, if_pos h]
   rw [e, show i + 1 + m = i + (m + 1) by omega]
  ·rw [if_neg h]
   have e : fnz M k (m + 1) i = i := by rw [fnz, if_neg h]
   rw [e, if_neg (by omega)]
def atI (M : List (List Rat)) (k n : Nat) : Int := if fnz M k n 0 = n then -1 else (fnz M k n 0 : Nat)
theorem atI_succ (M : List (List Rat)) (k n : Nat) : atI M k (n + 1) = if atI M k n < 0 then (if qf (rw' M n) k = 0 then -1 else (n : Int)) else atI M k n := by
 have h := fnz_last M k n 0
 have hl := (q9s M k n 0).2
 simp only [Nat.zero_add] at h hl
 unfold atI
 rw [h]
 by_cases h1 : fnz M k n 0 = n
 ·by_cases h2 : qf (rw' M n) k = 0
  ·simp [h1, h2]
  ·simp [h1, h2]
 ·have h3 : ¬ (fnz M k n 0 = n + 1) := by omega
  have h4 : ¬ ((fnz M k n 0 : Int) < 0) := by omega
  simp [h1, h3, h4]
theorem fnz_hit (M : List (List Rat)) (k : Nat) : ∀ m i, fnz M k m i < i + m → qf (rw' M (fnz M k m i)) k ≠ 0
 | 0, i, h => by rw [fnz] at h; omega
 | m + 1, i, h => by
  rw [fnz] at h ⊢
  split
  ·rename_i h1
   rw [if_pos h1] at h
   exact fnz_hit M k m (i + 1) (by omega)
  ·rename_i h1; exact h1
theorem ecPiv_len {R : List (List Rat)} {c i : Nat} (h : Rect R c) (hi : i < R.length) (k : Nat) : (q8i R i k).length = c := by
 unfold q8i scl; rw [w1f]; exact h i hi
theorem rect_of {M : List (List Rat)} {c : Nat} (h : ∀ r ∈ M, r.length = c) : Rect M c := fun i hi => by rw [q1o hi]; exact h _ (List.getElem_mem hi)
theorem Rect.mem {M : List (List Rat)} {c : Nat} (h : Rect M c) : ∀ r ∈ M, r.length = c := fun r hr => by
 obtain ⟨i, hi, rfl⟩ := List.mem_iff_getElem.1 hr
 rw [← q1o hi]; exact h i hi
theorem reL_rect {R : List (List Rat)} {c : Nat} (h : Rect R c) (p : List Rat) (k at' n : Nat) (hn : n ≤ R.length) : Rect (reL R p k at' n) c := rect_of fun r hr => by
 unfold reL at hr
 obtain ⟨j, hj, rfl⟩ := List.mem_map.1 hr
 rw [wo_len]
 have := List.mem_range.1 (List.mem_filter.1 hj).1
 exact h j (by omega)
theorem dnL_rect {D : List (List Rat)} {c : Nat} (h : Rect D c) (p : List Rat) (k n : Nat) : Rect (dnL D p k n) c := fun i hi => by
 rw [q5f] at hi
 rw [dnL_row _ _ _ _ _ hi]
 split
 ·rw [wo_len]; exact h i hi
 ·exact h i hi
theorem rect_app {M N : List (List Rat)} {c : Nat} (h : Rect M c) (h2 : Rect N c) : Rect (M ++ N) c := rect_of fun r hr => by
 rcases List.mem_append.1 hr with hr | hr
 ·exact h.mem r hr
 ·exact h2.mem r hr
theorem w1v {M : List (List Rat)} {c : Nat} (h : Rect M c) : ∀ k, Rect (ecS M k).1 c ∧ Rect (ecS M k).2.1 c
 | 0 => ⟨h, fun i hi => by simp [ecS] at hi⟩
 | k + 1 => by
  obtain ⟨h1, h2⟩ := w1v h k
  have hf := (q9s (ecS M k).1 k (ecS M k).1.length 0).2
  unfold ecS q7l
  split
  ·exact ⟨h1, h2⟩
  ·exact ⟨reL_rect h1 _ _ _ _ (Nat.le_refl _), rect_app (dnL_rect h2 _ _ _) (rect_of fun r hr => by
    rw [List.mem_singleton.1 hr]; exact ecPiv_len h1 (by omega) k)⟩
theorem reL_lenle (R : List (List Rat)) (p : List Rat) (k at' n : Nat) : (reL R p k at' n).length ≤ n := by
 unfold reL
 rw [List.length_map]
 exact Nat.le_trans (List.length_filter_le _ _) (by simp)
theorem ecS_len (M : List (List Rat)) : ∀ k, (ecS M k).1.length ≤ M.length ∧ (ecS M k).2.1.length ≤ k ∧ (ecS M k).2.2.length = (ecS M k).2.1.length
 | 0 => ⟨Nat.le_refl _, Nat.le_refl _, rfl⟩
 | k + 1 => by
  obtain ⟨h1, h2, h3⟩ := ecS_len M k
  unfold ecS q7l
  split
  ·exact ⟨h1, by omega, h3⟩
  ·refine ⟨Nat.le_trans (reL_lenle _ _ _ _ _) h1, ?_, ?_⟩
   ·simp only [List.length_append, q5f, List.length_cons, List.length_nil]; omega
   ·simp only [List.length_append, q5f, List.length_cons, List.length_nil, h3]
structure EcOk (M : List (List Rat)) (c : Nat) : Prop where
 r : ∀ k, k < c → SzM (ecS M k).1
 d : ∀ k, k < c → SzM (ecS M k).2.1
 p : ∀ k, k < c → ∀ i, i < (ecS M k).1.length → i = fnz (ecS M k).1 k (ecS M k).1.length 0 → Sz (qf (rw' (ecS M k).1 i) k)⁻¹ ∧ SzL (q8i (ecS M k).1 i k) ∧
  (∀ j l, Sz (qf (rw' (ecS M k).1 j) k * qf (q8i (ecS M k).1 i k) l)) ∧ ∀ j l, Sz (qf (rw' (ecS M k).2.1 j) k * qf (q8i (ecS M k).1 i k) l)
section
variable {lo : Nat} {H : Heap} {v : Value} {M : List (List Rat)} {a : Option Addr} {xs : List Sx} {t te : TypeId}
theorem own_keep1 {α : Type} [Enc α] {lo : Nat} {H : Heap} {a b : Option Addr} {r : List α} (h : Own lo H b r) (ha : ∀ c o e, a = some ⟨c, o, e⟩ → c < lo) : Own lo (kill H a) b r := by
 rcases h with h | ⟨c, rfl, h2, h3⟩
 ·exact .inl h
 ·refine .inr ⟨c, rfl, h2, q4f h3 ?_⟩
  intro c' o e he
  have := ha c' o e he
  omega
theorem MGrow.put2 {lk : Nat} (T : RowT t te) (h : MGrow lo H v M a xs) (i : Nat) (hi : i < M.length) (hlk : lk ≤ lo) {c : Option Addr} {r : List Rat} (hr : SL H c r) {p : Value} (hp : q0i prog t v (.int .i64 (i : Int)) = some p) :
  ∃ b B B0, a = some ⟨b, 0, none⟩ ∧ lo ≤ b ∧ q0e H b = some B0 ∧ B0.sz = 1 ∧ q3c prog lk H te p (.slice c r.length r.length) = some (H.set b B) ∧ MGrow lo (H.set b B) v (M.set i r) a (xs.set i ⟨c, r.length⟩) := by
 have hxl := h.rows.1
 have hv := h.v
 subst hv
 rcases h.own with ⟨rfl, h0⟩ | ⟨b, rfl, hb, hB⟩
 ·rw [h0] at hxl; simp at hxl; omega
 ·have hs := st_sx (lk := lk) T hB (by omega) i (by omega) ⟨c, r.length⟩ hxl.symm hp
  refine ⟨b, _, _, rfl, hb, hB, rfl, hs, ⟨by rw [List.length_set], .inr ⟨b, rfl, hb, q0x (q0w hB) rfl⟩, by simp [hxl], fun k h1 h2 => ?_⟩⟩
  simp only [List.length_set] at h1 h2
  rw [List.getElem_set, List.getElem_set]
  by_cases hk : i = k
  ·rw [if_pos hk, if_pos hk]
   exact ⟨rfl, hr.setr hB rfl⟩
  ·rw [if_neg hk, if_neg hk]
   obtain ⟨r1, r2⟩ := h.rows.2 k h1 h2
   exact ⟨r1, r2.setr hB rfl⟩
theorem q9y.setr (h : q9y H xs M) {b : Nat} {B B0 : Blk} (hb : q0e H b = some B0) (hs : B0.sz = 1) : q9y (H.set b B) xs M := ⟨h.1, fun i h1 h2 => ⟨(h.2 i h1 h2).1, (h.2 i h1 h2).2.setr hb hs⟩⟩
theorem MGrow.keepSet (h : MGrow lo H v M a xs) {b : Nat} {B B0 : Blk} (hb : q0e H b = some B0) (hs : B0.sz = 1) (hlt : b < lo) : MGrow lo (H.set b B) v M a xs := ⟨h.v, own_below h.own hlt B, h.rows.setr hb hs⟩
theorem sl_kill1 {α : Type} [Enc α] {lo : Nat} {H : Heap} {a c : Option Addr} {xs : List α} {r : List Rat} (hn : Enc.n α = 1) (hO : Own lo H a xs) (hr : SL H c r) : SL (kill H a) c r := by
 rcases hr with hr | ⟨b, o, B, rfl, h2, h3, h4⟩
 ·exact .inl hr
 ·refine .inr ⟨b, o, B, rfl, q4f h2 ?_, h3, h4⟩
  rintro c o' e rfl
  rcases hO with ⟨h, _⟩ | ⟨b', h, _, h5⟩
  ·cases h
  ·cases h
   rintro rfl
   rw [h2] at h5
   injection h5 with h5
   rw [h5] at h3
   have h6 : Enc.n α = 3 := h3
   omega
theorem q9y.kill1 {α : Type} [Enc α] {lo : Nat} {d : Option Addr} {ys : List α} (hn : Enc.n α = 1) (h : q9y H xs M) (hO : Own lo H d ys) : q9y (kill H d) xs M := ⟨h.1, fun i h1 h2 => ⟨(h.2 i h1 h2).1, sl_kill1 hn hO (h.2 i h1 h2).2⟩⟩
theorem MGrow.keepKill {α : Type} [Enc α] {l2 : Nat} {d : Option Addr} {ys : List α} (hn : Enc.n α = 1) (h : MGrow lo H v M a xs) (hO : Own l2 H d ys) (hlt : ∀ c o e, d = some ⟨c, o, e⟩ → c < lo) : MGrow lo (kill H d) v M a xs := ⟨h.v, own_keep1 h.own hlt, h.rows.kill1 hn hO⟩
theorem MGrow.low {lo' : Nat} (h : MGrow lo H v M a xs) (hl : lo' ≤ lo) : MGrow lo' H v M a xs := ⟨h.v, h.own.low hl, h.rows⟩
theorem Own.up {α : Type} [Enc α] {lo lo' : Nat} {H : Heap} {a : Option Addr} {l : List α} (h : Own lo H a l) (hl : ∀ c o e, a = some ⟨c, o, e⟩ → lo' ≤ c) : Own lo' H a l := by
 rcases h with h | ⟨c, rfl, h2, h3⟩
 ·exact .inl h
 ·exact .inr ⟨c, rfl, hl c 0 none rfl, h3⟩
theorem MGrow.up {lo' : Nat} (h : MGrow lo H v M a xs) (hl : ∀ c o e, a = some ⟨c, o, e⟩ → lo' ≤ c) : MGrow lo' H v M a xs := ⟨h.v, h.own.up hl, h.rows⟩
theorem Own.lt {α : Type} [Enc α] {lo : Nat} {H : Heap} {a : Option Addr} {l : List α} (h : Own lo H a l) : ∀ c o e, a = some ⟨c, o, e⟩ → c < H.length := by
 rintro c o e rfl
 rcases h with ⟨h, _⟩ | ⟨b, h, _, h3⟩
 ·cases h
 ·cases h; exact q0w h3
end
structure EcI (H0 H : Heap) (vr vd vp : Value) (da : Option Addr) (dx : List Sx) (pa : Option Addr) (R D : List (List Rat)) (P : List Nat) (Ld Lp : Nat) : Prop where
 ext : Ext H0 H
 l0 : H0.length ≤ Ld
 l1 : Ld ≤ Lp
 l2 : Lp ≤ H.length
 rows : MV H vr R
 done : MGrow Ld H vd D da dx
 db : ∀ b o e, da = some ⟨b, o, e⟩ → b < Lp
 piv : vp = .slice pa P.length P.length
 po : Own Lp H pa (misN P)
theorem SzM.szL {M : List (List Rat)} (h : SzM M) (i : Nat) : SzL (rw' M i) := fun x hx => by
 obtain ⟨j, hj, rfl⟩ := List.mem_iff_getElem.1 hx
 rw [← q1y hj]; exact h i j
theorem ecS_done {M : List (List Rat)} {k : Nat} (h : fnz (ecS M k).1 k (ecS M k).1.length 0 = (ecS M k).1.length) : ecS M (k + 1) = ecS M k := by
 rw [ecS, q7l, if_pos h]
theorem ecS_step {M : List (List Rat)} {k i : Nat} (h : fnz (ecS M k).1 k (ecS M k).1.length 0 = i) (hi : i < (ecS M k).1.length) :
  ecS M (k + 1) = (reL (ecS M k).1 (q8i (ecS M k).1 i k) k i (ecS M k).1.length, dnL (ecS M k).2.1 (q8i (ecS M k).1 i k) k (ecS M k).2.1.length ++ [q8i (ecS M k).1 i k], (ecS M k).2.2 ++ [k]) := by
 subst h
 rw [ecS, q7l, if_neg (by omega)]
theorem r5_Echelon {H : Heap} {v : Value} {M : List (List Rat)} {c : Nat} (hv : MV H v M) (hR : Rect M c) (h0 : M ≠ []) (hc : c ≤ 100000) (hM : M.length ≤ 100000) (ok : EcOk M c) :
  q0m 127 [v] H (fun v H' => ∃ w u, v = .tuple #[w, u] ∧ MV H' w (ecS M c).2.1 ∧ LV H' u (misN (ecS M c).2.2)) := by
 refine q1n (by decide) Tryz.func127 rfl ?_
 intro lk hlk
 have hv0 := hv
 obtain ⟨av, xs0, rfl, hs0, hr0⟩ := hv
 have hO : OwnP H.length (H ++ [⟨[], 1, false⟩]) (some ⟨H.length, 0, none⟩) ([] : List Sx) := .inr ⟨_, _, rfl, Nat.le_refl _, q0j _ _, rfl, rfl, Nat.zero_le _⟩
 have hx0 := hr0.1
 obtain ⟨a1, H1, q1, q2, q3, _⟩ := ap_all (P := prog) (lk := lk) (t := 28) (t2 := 28) (Ext.app H _) hO ((Ext.app H [⟨[], 1, false⟩]).sl hs0) hlk q2c.e q2c.e q2c.s q2c.b q2c.z rfl (by decide) rfl (by decide) (by rw [List.length_nil]; omega)
 rw [List.length_nil, Nat.zero_add, hx0] at q1
 rw [List.nil_append] at q3
 have hl1 := q2.le
 have hcol : cols M = c := by
  cases M with
  | nil => exact absurd rfl h0
  | cons r M => exact hR 0 (by simp)
 have kc := fun H' (hE : Ext H H') lk => r5_Cols (hv0.ext hE) lk
 rw [hcol] at kc
 simp -dsimp only [go_sem, reps, q1]
 have hrows1 : MV H1 (.slice a1 M.length M.length) M := ⟨a1, xs0, rfl, q3.sl, hr0.ext q2⟩
 refine q2g (m := fun (k : Nat) => c - k) (I := fun k σ H' => k ≤ c ∧ ∃ vr vd vp da dx pa Ld Lp, EcI H H' vr vd vp da dx pa (ecS M k).1 (ecS M k).2.1 (ecS M k).2.2 Ld Lp ∧ σ 0 = .slice av M.length M.length ∧ σ 4 = vr ∧ σ 5 = vd ∧ σ 6 = vp ∧ σ 7 = .int .i64 (k : Int)) 0 ⟨Nat.zero_le _, _, _, _, none, [], none, H1.length, H1.length, ⟨q2, hl1, Nat.le_refl _, Nat.le_refl _, hrows1, MGrow.nil, by simp, rfl, Own.nil⟩, rfl, rfl, rfl, rfl, rfl⟩ ?_
 rintro k σ H' ⟨h1, vr, vd, vp, da, dx, pa, Ld, Lp, hI, s0, s4, s5, s6, s7⟩
 have kc := kc H' hI.ext
 have hlH := hI.ext.le
 by_cases hk : k < c
 ·have f1 := ltI hk
  have e7 := q1m hk (by omega)
  obtain ⟨R, hRe⟩ : ∃ R, R = (ecS M k).1 := ⟨_, rfl⟩
  obtain ⟨D, hDe⟩ : ∃ D, D = (ecS M k).2.1 := ⟨_, rfl⟩
  obtain ⟨P, hPe⟩ : ∃ P, P = (ecS M k).2.2 := ⟨_, rfl⟩
  have hRr := (w1v hR k).1
  have hDr := (w1v hR k).2
  obtain ⟨hRl, hDl, hPl⟩ := ecS_len M k
  have okr := ok.r k hk
  have okd := ok.d k hk
  have okp := ok.p k hk
  have hdone := ecS_done (M := M) (k := k)
  have hstep := fun i => ecS_step (M := M) (k := k) (i := i)
  rw [← hRe, ← hDe, ← hPe] at hI
  rw [← hRe] at hRr hRl okr okp hdone hstep
  rw [← hDe] at hDr hDl okd okp hstep hPl
  rw [← hPe] at hPl hstep
  have hrows := hI.rows
  obtain ⟨ar, rfl⟩ := hrows.is
  simp -dsimp only [go_sem, s0, s4, s5, s6, s7, kc, f1]
  refine q2g (m := fun (i : Nat) => R.length - i) (I := fun i σ H2 => i ≤ R.length ∧ H2 = H' ∧ σ 0 = .slice av M.length M.length ∧ σ 4 = .slice ar R.length R.length ∧ σ 5 = vd ∧ σ 6 = vp ∧ σ 7 = .int .i64 (k : Int) ∧ σ 8 = .int .i64 (atI R k i) ∧ σ 24 = .int .i64 (R.length : Int) ∧ σ 25 = .int .i64 (i : Int)) 0 ⟨Nat.zero_le _, rfl, s0, s4, s5, s6, s7, rfl, rfl, rfl⟩ ?_
  clear s0 s4 s5 s6 s7 σ
  rintro i σ H2 ⟨h2, rfl, s0, s4, s5, s6, s7, s8, s24, s25⟩
  by_cases hi : i < R.length
  ·have f2 := ltI hi
   have e8 := q1m hi (by omega)
   have hat := atI_succ R k i
   by_cases ha : atI R k i < 0
   ·rw [if_pos ha] at hat
    have ha' := eq_true ha
    obtain ⟨p1, d1, x1, x2, x3⟩ := hrows.ix q2c i hi
    replace x2 := x2 H2 (Ext.refl _)
    rw [← q1o hi] at x2 x3
    have hli := hRr i hi
    obtain ⟨p2, y1, y2⟩ := x3.ix k (by omega) q0o
    replace y2 := y2 H2 (Ext.refl _)
    rw [← q1y (by omega)] at y2
    have kz := fun lk H' => r5_isZero lk H' (qf (rw' R i) k)
    by_cases hz : qf (rw' R i) k = 0
    ·rw [decide_eq_true hz] at kz
     rw [if_pos hz] at hat
     have hat' : atI R k i = -1 := by unfold atI at ha ⊢; split <;> omega
     simp -dsimp only [go_sem, s0, s4, s5, s6, s7, s8, s24, s25, f2, ha', x1, x2, y1, y2, kz, e8]
     exact next (i + 1) (by show R.length - (i + 1) < R.length - i; omega) ⟨hi, rfl, s0, s4, s5, s6, s7, by rw [hat]; exact s8.trans (by rw [hat']), s24, rfl⟩
    ·rw [decide_eq_false hz] at kz
     rw [if_neg hz] at hat
     simp -dsimp only [go_sem, s0, s4, s5, s6, s7, s8, s24, s25, f2, ha', x1, x2, y1, y2, kz, e8]
     exact next (i + 1) (by show R.length - (i + 1) < R.length - i; omega) ⟨hi, rfl, s0, s4, s5, s6, s7, by rw [hat]; rfl, s24, rfl⟩
   ·rw [if_neg ha] at hat
    have ha' := eq_false ha
    simp -dsimp only [go_sem, s0, s4, s5, s6, s7, s8, s24, s25, f2, ha', e8]
    exact next (i + 1) (by show R.length - (i + 1) < R.length - i; omega) ⟨hi, rfl, s0, s4, s5, s6, s7, by rw [hat]; exact s8, s24, rfl⟩
  ·have hi' : i = R.length := by omega
   subst hi'
   have f2 := nltI R.length
   have hfl := (q9s R k R.length 0).2
   simp only [Nat.zero_add] at hfl
   obtain ⟨at', hat⟩ : ∃ at', at' = fnz R k R.length 0 := ⟨_, rfl⟩
   rw [← hat] at hfl hdone hstep
   by_cases hend : at' = R.length
   ·have hv8 : atI R k R.length = -1 := by unfold atI; rw [← hat, if_pos hend]
    rw [hv8] at s8
    have hdone := hdone hend
    simp -dsimp only [go_sem, s0, s4, s5, s6, s7, s8, s24, s25, f2, e7]
    refine next (k + 1) (by show c - (k + 1) < c - k; omega) ⟨hk, _, _, _, da, dx, pa, Ld, Lp, ?_, s0, s4, s5, s6, rfl⟩
    rw [hdone, ← hRe, ← hDe, ← hPe]
    exact hI
   ·have hlt : at' < R.length := by omega
    have hv8 : atI R k R.length = (at' : Int) := by unfold atI; rw [← hat, if_neg hend]
    rw [hv8] at s8
    have f3 : ((at' : Int) < 0) = False := eq_false (by omega)
    obtain ⟨p1, d1, x1, x2, x3⟩ := hrows.ix q2c at' hlt
    replace x2 := x2 H2 (Ext.refl _)
    rw [← q1o hlt] at x2 x3
    have hli := hRr at' hlt
    obtain ⟨p2, y1, y2⟩ := x3.ix k (by omega) q0o
    replace y2 := y2 H2 (Ext.refl _)
    rw [← q1y (by omega)] at y2
    have hne : qf (rw' R at') k ≠ 0 := by
     have := fnz_hit R k R.length 0 (by omega)
     rw [← hat] at this; exact this
    have k1 := fun lk H' => w2l lk H' (qf (rw' R at') k) hne
    obtain ⟨okp1, okp2, okp3, okp4⟩ := okp at' hlt hat
    obtain ⟨pv, hpv⟩ : ∃ pv, pv = q8i R at' k := ⟨_, rfl⟩
    replace hstep := hstep at' rfl hlt
    rw [← hpv] at okp2 okp3 okp4 hstep
    have hpl : pv.length = c := by rw [hpv]; exact ecPiv_len hRr hlt k
    simp -dsimp only [go_sem, s0, s4, s5, s6, s7, s8, s24, s25, f2, f3, x1, x2, y1, y2, k1]
    refine ob_y (r5_scaled (f := rw' R at') (c := (qf (rw' R at') k)⁻¹) ⟨d1, rfl, x3⟩ (okr.szL at') okp1 (by omega)) (Nat.le_refl _) ?_
    rintro v1 H3 hE3 ⟨e1, rfl, hO1⟩
    rw [show scl (rw' R at') (qf (rw' R at') k)⁻¹ = pv from hpv.symm] at hO1 ⊢
    rw [hpl]
    have hpvs : SL H3 e1 pv := hO1.sl
    have hl3 := hE3.le
    simp -dsimp only [go_sem, s0, s4, s5, s6, s7, s8]
    refine q2g (m := fun (i : Nat) => R.length - i) (I := fun i σ H4 => i ≤ R.length ∧ Ext H3 H4 ∧ (∃ vo oa ox, MGrow H3.length H4 vo (reL R pv k at' i) oa ox ∧ σ 11 = vo) ∧ σ 0 = .slice av M.length M.length ∧ σ 4 = .slice ar R.length R.length ∧ σ 5 = vd ∧ σ 6 = vp ∧ σ 7 = .int .i64 (k : Int) ∧ σ 8 = .int .i64 (at' : Int) ∧ σ 10 = .slice e1 c c ∧ σ 59 = .int .i64 (R.length : Int) ∧ σ 60 = .int .i64 (i : Int)) 0 ⟨Nat.zero_le _, Ext.refl _, ⟨_, none, [], MGrow.nil, rfl⟩, s0, s4, s5, s6, s7, s8, rfl, rfl, rfl⟩ ?_
    clear s0 s4 s5 s6 s7 s8 s24 s25 σ hi h2 f2
    rintro i σ H4 ⟨h2, hE4, ⟨vo, oa, ox, hG, s11⟩, s0, s4, s5, s6, s7, s8, s10, s59, s60⟩
    have hl4 := hE4.le
    by_cases hi : i < R.length
    ·have f2 := ltI hi
     have e8 := q1m hi (by omega)
     have hre := reL_succ R pv k at' i
     by_cases hia : i = at'
     ·have f4 : ((i : Int) ≠ (at' : Int)) = False := eq_false (by omega)
      have f5 : ((i : Int) = (at' : Int)) = True := eq_true (by omega)
      rw [if_pos hia] at hre
      simp -dsimp only [go_sem, s0, s4, s5, s6, s7, s8, s10, s11, s59, s60, f2, f4, f5, e8]
      exact next (i + 1) (by show R.length - (i + 1) < R.length - i; omega) ⟨hi, hE4, ⟨vo, oa, ox, by rw [hre]; exact hG, s11⟩, s0, s4, s5, s6, s7, s8, s10, s59, rfl⟩
     ·have f4 : ((i : Int) ≠ (at' : Int)) = True := eq_true (by omega)
      have f5 : ((i : Int) = (at' : Int)) = False := eq_false (by omega)
      rw [if_neg hia] at hre
      obtain ⟨p3, d3, z1, z2, z3⟩ := hrows.ix q2c i hi
      replace z2 := z2 H4 (hE3.trans hE4)
      rw [← q1o hi] at z2 z3
      have hlr := hRr i hi
      simp -dsimp only [go_sem, s0, s4, s5, s6, s7, s8, s10, s11, s59, s60, f2, f4, f5, z1, z2]
      refine ob_y (r5_without (r := rw' R i) (p := pv) (k := k) (w := .slice e1 c c) ⟨d3, rfl, (hE3.trans hE4).sl z3⟩ ⟨e1, by rw [hpl], hE4.sl hpvs⟩ (by omega) (by omega) (by omega) (okr.szL i) okp2 (okp3 i)) (by omega) ?_
      rintro v5 H5 hE5 ⟨e5, rfl, hs5⟩
      have hwl : (wo (rw' R i) pv k).length = c := by rw [wo_len, hlr]
      have hG2 := hG.ext hE5
      obtain ⟨hG3, hE6⟩ := hG2.app (hE4.trans hE5) hs5
      have hxl := hG.rows.1
      have hvo := hG.v
      have hgl := reL_lenle R pv k at' i
      have hap := w3g (lk := lk) (t := 28) (t2 := 28) q2c q2c.e hG2.own (by omega) hxl.symm (by omega) ⟨e5, (wo (rw' R i) pv k).length⟩
      rw [← hre] at hG3
      simp -dsimp only [go_sem, s0, s4, s5, s6, s7, s8, s10, s11, s59, s60, hvo, reps, hap, e8]
      exact next (i + 1) (by show R.length - (i + 1) < R.length - i; omega) ⟨hi, hE6, ⟨_, _, _, hG3, rfl⟩, s0, s4, s5, s6, s7, s8, s10, s59, rfl⟩
    ·have hi' : i = R.length := by omega
     subst hi'
     have f2 := nltI R.length
     have hvd := hI.done.v
     subst hvd
     have hpo := hI.po
     have hpolt := hI.po.lt
     have hdb := hI.db
     have hL0 := hI.l0
     have hL1 := hI.l1
     have hL2 := hI.l2
     simp -dsimp only [go_sem, s0, s4, s5, s6, s7, s8, s10, s11, s59, s60, f2]
     have hE24 := hE3.trans hE4
     refine q2g (m := fun (i : Nat) => D.length - i) (I := fun i σ H5 => i ≤ D.length ∧ Ext H H5 ∧ H4.length ≤ H5.length ∧ MGrow H3.length H5 vo (reL R pv k at' R.length) oa ox ∧ (∃ dx', MGrow Ld H5 (.slice da D.length D.length) (dnL D pv k i) da dx') ∧ Own Lp H5 pa (misN P) ∧ SL H5 e1 pv ∧ σ 0 = .slice av M.length M.length ∧ σ 11 = vo ∧ σ 5 = .slice da D.length D.length ∧ σ 6 = vp ∧ σ 7 = .int .i64 (k : Int) ∧ σ 10 = .slice e1 c c ∧ σ 78 = .int .i64 (D.length : Int) ∧ σ 79 = .int .i64 (i : Int)) 0 ⟨Nat.zero_le _, hI.ext.trans hE24, Nat.le_refl _, hG, ⟨dx, by rw [dnL_zero]; exact hI.done.ext hE24⟩, hE24.own hI.po, hE4.sl hpvs, s0, s11, s5, s6, s7, s10, rfl, rfl⟩ ?_
     clear s0 s4 s5 s6 s7 s8 s10 s11 s59 s60 σ h2 f2 hG
     rintro i σ H5 ⟨h2, hE5, hl5, hG, ⟨dx', hDn⟩, hpo, hpvs, s0, s11, s5, s6, s7, s10, s78, s79⟩
     by_cases hi : i < D.length
     ·have f2 := ltI hi
      have e8 := q1m hi (by omega)
      have hdl := q5f D pv k i
      obtain ⟨p3, d3, z1, z2, z3⟩ := hDn.mv.ix q2c i (by omega)
      replace z2 := z2 H5 (Ext.refl _)
      have hrw : (dnL D pv k i)[i]'(by omega) = rw' D i := by
       rw [← q1o (by omega), dnL_row _ _ _ _ _ hi, if_neg (by omega)]
      rw [hrw] at z2 z3
      have hlr := hDr i hi
      simp -dsimp only [go_sem, s0, s5, s6, s7, s10, s11, s78, s79, f2, z1, z2]
      refine ob_y (r5_without (r := rw' D i) (p := pv) (k := k) (w := .slice e1 c c) ⟨d3, rfl, z3⟩ ⟨e1, by rw [hpl], hpvs⟩ (by omega) (by omega) (by omega) (okd.szL i) okp2 (okp4 i)) (by omega) ?_
      rintro v6 H6 hE6 ⟨e6, rfl, hs6⟩
      obtain ⟨b, B, B0, g1, g2, g3, g4, g5, g6⟩ := (hDn.ext hE6).put2 (lk := lk) q2c i (by omega) (by omega) hs6 z1
      have hbl := hdb b 0 none g1
      rw [dnL_set _ _ _ _ hi] at g6
      have hl6 := hE6.le
      simp -dsimp only [go_sem, s0, s5, s6, s7, s10, s11, s78, s79, z1, g5, e8]
      exact next (i + 1) (by show D.length - (i + 1) < D.length - i; omega) ⟨hi, (hE5.trans hE6).set (by omega) _, by rw [List.length_set]; omega, (hG.ext hE6).keepSet g3 g4 (by omega), ⟨_, g6⟩, own_below (hE6.own hpo) hbl B, (hE6.sl hpvs).setr g3 g4, s0, s11, s5, s6, s7, s10, s78, rfl⟩
     ·have hi' : i = D.length := by omega
      subst hi'
      have f2 := nltI D.length
      have hdl := q5f D pv k D.length
      have hxl := hDn.rows.1
      rw [hdl] at hxl
      have hlh := hE5.le
      have hap := w3g (lk := lk) (t := 28) (t2 := 28) q2c q2c.e (H0 := H) (hDn.own.low hL0) hlk hxl.symm (by omega) ⟨e1, c⟩
      obtain ⟨hN, hE6⟩ := MGrow.app (H0 := H) (hDn.low hL0) hE5 hpvs
      rw [hpl, hdl] at hN
      rw [hpl] at hE6
      have hdO := hDn.own
      obtain ⟨N1, hN1⟩ : ∃ N1 : List Blk, N1 = [⟨[.slice e1 c c], 1, false⟩] := ⟨_, rfl⟩
      obtain ⟨N2, hN2⟩ : ∃ N2 : List Blk, N2 = [⟨q0g dx' ++ [.slice e1 c c], 1, false⟩] := ⟨_, rfl⟩
      rw [← hN1, ← hN2] at hap hN hE6
      have hpo6 : Own Lp (kill (H5 ++ N1) da ++ N2) pa (misN P) := (own_keep1 (hpo.more N1) hdb).more N2
      have hG6 : MGrow H3.length (kill (H5 ++ N1) da ++ N2) vo (reL R pv k at' R.length) oa ox := (((hG.ext (Ext.app _ N1)).keepKill rfl (hdO.more N1) (fun c o e h => by have := hdb c o e h; omega)).ext (Ext.app _ N2))
      have hN' := hN.up (lo' := H5.length) (fun c o e h => by injection h with h; injection h with h _ _; omega)
      have hl6 : (kill (H5 ++ N1) da ++ N2).length = H5.length + 2 := by rw [hN1, hN2]; simp [q9e]
      generalize hH6 : kill (H5 ++ N1) da ++ N2 = H6 at *
      have hmil := q4o P
      have hap2 := ap_mi (H0 := H) (lk := lk) (hpo6.low (by omega)) hlk hmil.symm (by omega) (k : Int)
      obtain ⟨N3, hN3⟩ : ∃ N3 : List Blk, N3 = [⟨[.int .i64 (k : Int)], 1, false⟩] := ⟨_, rfl⟩
      obtain ⟨N4, hN4⟩ : ∃ N4 : List Blk, N4 = [⟨q0g (misN P) ++ [.int .i64 (k : Int)], 1, false⟩] := ⟨_, rfl⟩
      have hP7 : Own H6.length (kill (H6 ++ N3) pa ++ N4) (some ⟨H6.length + 1, 0, none⟩) (misN P ++ [⟨(k : Int)⟩]) := by
       have := q9p (lo := H6.length) (H := H6) (a := pa) (l := misN P) ⟨(k : Int)⟩ N3 (by omega)
       rw [hN4]
       rw [hN3] at this ⊢
       exact this
      rw [← hN3, ← hN4] at hap2
      have hE7 : Ext H (kill (H6 ++ N3) pa ++ N4) := ((((hpo6.low (lo' := H.length) (by omega)).more N3)).kill (hE6.more N3)).more N4
      have hG7 : MGrow H3.length (kill (H6 ++ N3) pa ++ N4) vo (reL R pv k at' R.length) oa ox := (((hG6.ext (Ext.app _ N3)).keepKill rfl (hpo6.more N3) (fun c o e h => by have := hpolt c o e h; omega)).ext (Ext.app _ N4))
      have hD7 := (((hN'.ext (Ext.app _ N3)).keepKill rfl (hpo6.more N3) (fun c o e h => by have := hpolt c o e h; omega)).ext (Ext.app _ N4))
      have hl7 : (kill (H6 ++ N3) pa ++ N4).length = H6.length + 2 := by rw [hN3, hN4]; simp [q9e]
      have hpiv := hI.piv
      simp -dsimp only [go_sem, s0, s5, s6, s7, s10, s11, s78, s79, f2, reps, hap, hap2, ← hN1, ← hN2, ← hN3, hH6, hpiv, e7]
      generalize hH7 : kill (H6 ++ N3) pa ++ N4 = H7 at *
      refine next (k + 1) (by show c - (k + 1) < c - k; omega) ⟨hk, vo, .slice (some ⟨H5.length + 1, 0, none⟩) (D.length + 1) (D.length + 1), .slice (some ⟨H6.length + 1, 0, none⟩) (P.length + 1) (P.length + 1), some ⟨H5.length + 1, 0, none⟩, dx' ++ [⟨e1, c⟩], some ⟨H6.length + 1, 0, none⟩, H5.length, H6.length, ?_, s0, rfl, rfl, rfl, rfl⟩
      rw [hstep]
      refine ⟨hE7, hlh, by omega, by omega, hG7.mv, hD7, fun b o e h => ?_, by simp [hPl], ?_⟩
      ·injection h with h; injection h with h _ _; omega
      ·rw [misN_app]; exact hP7
 ·have hk' : k = c := by omega
  subst hk'
  have f1 := nltI k
  simp -dsimp only [go_sem, s0, s4, s5, s6, s7, kc, f1]
  exact ⟨hI.ext, _, _, rfl, hI.done.mv, pa, by rw [hI.piv, q4o], hI.po.sl⟩
theorem ap_lit {H : Heap} {a : Option Addr} {r : List Rat} {t t2 : TypeId} (hr : SL H a r) (h0 : 0 < r.length) (hl : r.length ≤ 1000000) (he : q0z prog t = some 55) (he2 : q0z prog t2 = some 55) (lk : Nat) :
  q2u prog lk H t t2 lit0 (.slice a r.length r.length) = some (.slice (some ⟨H.length, 0, none⟩) r.length r.length, H ++ [⟨q0g r, 3, false⟩]) := by
 have hf := hr.first
 unfold lit0
 rw [q9h]
 simp only [he, he2, go_sem, w1r]
 rw [show (3 : Nat) = Enc.n Rat from rfl, hf]
 simp only
 rw [if_pos (by omega), if_neg (by omega)]
def w0y (M : List (List Rat)) (b : List Rat) (n : Nat) : List (List Rat) := (List.range n).map fun i => rw' M i ++ [qf b i]
theorem q4r (M : List (List Rat)) (b : List Rat) (n : Nat) : (w0y M b n).length = n := by simp [w0y]
theorem wideL_succ (M : List (List Rat)) (b : List Rat) (n : Nat) : w0y M b (n + 1) = w0y M b n ++ [rw' M n ++ [qf b n]] := by simp [w0y, List.range_succ]
theorem wideL_rect {M : List (List Rat)} {c : Nat} (h : Rect M c) (b : List Rat) : Rect (w0y M b M.length) (c + 1) := rect_of fun r hr => by
 unfold w0y at hr
 obtain ⟨i, hi, rfl⟩ := List.mem_map.1 hr
 rw [List.length_append, h i (List.mem_range.1 hi)]; rfl
def solT (M : List (List Rat)) (b : List Rat) (c : Nat) : EcT := ecS (w0y M b M.length) (c + 1)
def solF (s : EcT) (c : Nat) : Nat → Rat := fun col => if col ∈ s.2.2 then qf (rw' s.2.1 (pvAt s.2.2 col)) c else 0
def solveL (M : List (List Rat)) (b : List Rat) (c : Nat) : Option (List Rat) :=
 if c ∈ (solT M b c).2.2 then none else some (mapR (solF (solT M b c) c) c)
theorem r5_Solve {H : Heap} {v w : Value} {M : List (List Rat)} {b : List Rat} {c : Nat} (hv : MV H v M) (hw : LV H w b) (hR : Rect M c) (h0 : M ≠ []) (hc0 : 0 < c) (hb : b.length = M.length) (hc : c ≤ 10000) (hM : M.length ≤ 10000) (ok : EcOk (w0y M b M.length) (c + 1)) :
  q0m 72 [v, w] H (fun r H' => match solveL M b c with
   | none => r = .tuple #[.slice none 0 0, .bool false]
   | some x => ∃ w', r = .tuple #[w', .bool true] ∧ LV H' w' x) := by
 refine q1n (by decide) Tryz.func72 rfl ?_
 intro lk hlk
 have hcol : cols M = c := by
  cases M with
  | nil => exact absurd rfl h0
  | cons r M => exact hR 0 (by simp)
 have kc := r5_Cols hv
 rw [hcol] at kc
 obtain ⟨av, rfl⟩ := hv.is
 obtain ⟨aw, rfl, hsw⟩ := hw
 simp -dsimp only [go_sem, kc]
 refine q2g (m := fun (i : Nat) => M.length - i) (I := fun i σ H' => i ≤ M.length ∧ Ext H H' ∧ (∃ vo oa ox, MGrow H.length H' vo (w0y M b i) oa ox ∧ σ 7 = vo) ∧ σ 0 = .slice av M.length M.length ∧ σ 1 = .slice aw b.length b.length ∧ σ 6 = .int .i64 (c : Int) ∧ σ 20 = .int .i64 (M.length : Int) ∧ σ 21 = .int .i64 (i : Int)) 0 ⟨Nat.zero_le _, Ext.refl _, ⟨_, none, [], MGrow.nil, rfl⟩, rfl, rfl, rfl, rfl, rfl⟩ ?_
 rintro i σ H' ⟨h1, hE, ⟨vo, oa, ox, hG, s7⟩, s0, s1, s6, s20, s21⟩
 have hl1 := hE.le
 by_cases hi : i < M.length
 ·have f1 := ltI hi
  have e7 := q1m hi (by omega)
  obtain ⟨p1, d1, x1, x2, x3⟩ := hv.ix q2c i hi
  rw [← q1o hi] at x2 x3
  have hri := hR i hi
  obtain ⟨p2, y1, y2⟩ := hsw.ix i (by omega) q0o
  rw [← q1y (by omega)] at y2
  obtain ⟨r, hr⟩ : ∃ r, r = rw' M i := ⟨_, rfl⟩
  obtain ⟨q, hq⟩ : ∃ q, q = qf b i := ⟨_, rfl⟩
  have hws := wideL_succ M b i
  rw [← hr, ← hq] at hws
  rw [← hr] at x2 x3 hri
  rw [← hq] at y2
  have hEb : Ext H' (H' ++ [⟨[], 3, false⟩]) := Ext.app _ _
  have x2 := fun N => x2 (H' ++ N) (hE.more N)
  have y2 := fun N => y2 (H' ++ N) (hE.more N)
  have hl := fun lk => ap_lit (t := 22) (t2 := 22) (hEb.sl (hE.sl x3)) (by omega) (by omega) q0o q0o lk
  simp only [List.length_append, List.append_assoc, List.cons_append, List.nil_append, List.length_cons, List.length_nil, Nat.zero_add] at hl
  have hO1 : Own H.length (H' ++ [⟨[], 3, false⟩, ⟨q0g r, 3, false⟩]) (some ⟨H'.length + 1, 0, none⟩) r := .inr ⟨_, rfl, by omega, by
   unfold q0e
   rw [List.getElem?_append_right (by omega)]
   simp [lblk]
   rfl⟩
  have hap := q5w (lk := lk) (t := 22) (t2 := 22) q0o q0o hO1 hlk rfl (by omega) q
  simp only [List.length_append, List.append_assoc, List.cons_append, List.nil_append, List.length_cons, List.length_nil, Nat.zero_add] at hap
  have hO2 : Own H'.length (H' ++ [⟨[], 3, false⟩, ⟨q0g r, 3, false⟩]) (some ⟨H'.length + 1, 0, none⟩) r := .inr ⟨_, rfl, by omega, by
   unfold q0e
   rw [List.getElem?_append_right (by omega)]
   simp [lblk]
   rfl⟩
  have hE2 := q2r (Ext.app H' [⟨[], 3, false⟩, ⟨q0g r, 3, false⟩]) hO2 [⟨rC q, 3, false⟩] [⟨q0g r ++ rC q, 3, false⟩]
  have hO3 := q2w (H0 := H') (Ext.app H' [⟨[], 3, false⟩, ⟨q0g r, 3, false⟩]) hO2 q [⟨rC q, 3, false⟩]
  simp only [List.length_append, List.append_assoc, List.cons_append, List.nil_append, List.length_cons, List.length_nil, Nat.zero_add] at hE2 hO3
  obtain ⟨He, hHe⟩ : ∃ He, He = kill (H' ++ [⟨[], 3, false⟩, ⟨q0g r, 3, false⟩, ⟨rC q, 3, false⟩]) (some ⟨H'.length + 1, 0, none⟩) ++ [⟨q0g r ++ rC q, 3, false⟩] := ⟨_, rfl⟩
  have hlHe : He.length = H'.length + 4 := by rw [hHe]; simp [q9e]
  rw [← hHe] at hap hE2 hO3
  have hG2 := hG.ext hE2
  have hxl := hG.rows.1
  rw [q4r] at hxl
  have hrl : (r ++ [q]).length = c + 1 := by rw [List.length_append, hri]; rfl
  obtain ⟨hG3, hE3⟩ := hG2.app (hE.trans hE2) hO3.sl
  rw [hrl, q4r, ← hws] at hG3
  rw [hrl] at hE3
  have hvo := hG.v
  rw [q4r] at hvo
  have hap2 := w3g (lk := lk) (t := 28) (t2 := 28) q2c q2c.e hG2.own (by omega) hxl.symm (by omega) ⟨some ⟨H'.length + 2 + 1, 0, none⟩, c + 1⟩
  rw [hri] at x2 hl hap
  simp -dsimp only [go_sem, Option.some_beq_some, beq_self_eq_true, s0, s1, s6, s7, s20, s21, f1, x1, x2, y1, y2, reps, hl, hap, hvo, hap2, e7]
  exact next (i + 1) (by show M.length - (i + 1) < M.length - i; omega) ⟨hi, hE3, ⟨_, _, _, hG3, rfl⟩, s0, s1, s6, s20, rfl⟩
 ·have hi' : i = M.length := by omega
  subst hi'
  have f1 := nltI M.length
  have hm0 : 0 < M.length := List.length_pos_iff.2 h0
  simp -dsimp only [go_sem, s0, s1, s6, s7, s20, s21, f1]
  refine ob_y (r5_Echelon (c := c + 1) hG.mv (wideL_rect hR b) (by rw [← List.length_pos_iff, q4r]; exact hm0) (by omega) (by rw [q4r]; omega) ok) (by omega) ?_
  rintro v2 H2 hE2 ⟨we, wp, rfl, hMe, hLp⟩
  have hl2 := hE2.le
  unfold solveL
  have hel := (ecS_len (w0y M b M.length) (c + 1))
  have her := (w1v (wideL_rect hR b) (c + 1)).2
  rw [show ecS (w0y M b M.length) (c + 1) = solT M b c from rfl] at hMe hLp hel her
  generalize solT M b c = S at *
  obtain ⟨S1, D, P⟩ := S
  simp only at hMe hLp hel her ⊢
  obtain ⟨_, hDl, hPl⟩ := hel
  obtain ⟨ae, rfl⟩ := hMe.is
  have kp := fun lk => r5_isPivot hLp c (by omega) lk
  by_cases hcP : c ∈ P
  ·rw [decide_eq_true hcP] at kp
   rw [if_pos hcP]
   simp -dsimp only [go_sem, s0, s1, s6, kp]
   exact hE.trans hE2
  ·rw [decide_eq_false hcP] at kp
   rw [if_neg hcP]
   simp -dsimp only [go_sem, s0, s1, s6, kp]
   obtain ⟨F, hF⟩ : ∃ F, F = solF (S1, D, P) c := ⟨_, rfl⟩
   rw [← hF]
   refine q2g (m := fun (j : Nat) => c - j) (I := fun j σ H3 => j ≤ c ∧ Ext H2 H3 ∧ (∃ oa, Own H2.length H3 oa (mapR F j) ∧ σ 13 = .slice oa j j) ∧ σ 6 = .int .i64 (c : Int) ∧ σ 9 = .slice ae D.length D.length ∧ σ 10 = wp ∧ σ 14 = .int .i64 (j : Int)) 0 ⟨Nat.zero_le _, Ext.refl _, ⟨none, Own.nil, rfl⟩, s6, rfl, rfl, rfl⟩ ?_
   clear s0 s1 s6 s7 s20 s21 σ kp
   rintro j σ H3 ⟨h3, hE3, ⟨oa, hO, s13⟩, s6, s9, s10, s14⟩
   have hlen := q0d F j
   have hl3 := hE3.le
   by_cases hj : j < c
   ·have f2 := ltI hj
    have e8 := q1m hj (by omega)
    have kp := fun lk => r5_isPivot (hLp.ext hE3) j (by omega) lk
    have hap := q5w (lk := lk) (t := 22) (t2 := 22) q0o q0o hO (by omega) hlen.symm (by omega) (F j)
    have hO2 := q2w hE3 hO (F j) [⟨rC (F j), 3, false⟩]
    rw [← q2d] at hO2
    have hFj : F j = if j ∈ P then qf (rw' D (pvAt P j)) c else 0 := by rw [hF]; rfl
    by_cases hjP : j ∈ P
    ·rw [decide_eq_true hjP] at kp
     rw [if_pos hjP] at hFj
     have hpl : pvAt P j < D.length := by
      unfold pvAt
      rw [if_pos hjP]
      have := List.idxOf_lt_length_of_mem hjP
      omega
     obtain ⟨p1, d1, x1, x2, x3⟩ := hMe.ix q2c (pvAt P j) hpl
     replace x2 := x2 H3 hE3
     rw [← q1o hpl] at x2 x3
     have hr2 := her (pvAt P j) hpl
     obtain ⟨p2, y1, y2⟩ := x3.ix c (by omega) q0o
     replace y2 := y2 H3 hE3
     rw [← q1y (by omega), ← hFj] at y2
     simp -dsimp only [go_sem, s6, s9, s10, s13, s14, f2, kp, x1, x2, y1, y2, reps, hap, e8]
     exact next (j + 1) (by show c - (j + 1) < c - j; omega) ⟨hj, q2r hE3 hO _ _, ⟨_, hO2, rfl⟩, s6, s9, s10, rfl⟩
    ·rw [decide_eq_false hjP] at kp
     rw [if_neg hjP] at hFj
     have k0 := fun lk H => q6f lk H
     rw [← hFj] at k0
     simp -dsimp only [go_sem, s6, s9, s10, s13, s14, f2, kp, k0, reps, hap, e8]
     exact next (j + 1) (by show c - (j + 1) < c - j; omega) ⟨hj, q2r hE3 hO _ _, ⟨_, hO2, rfl⟩, s6, s9, s10, rfl⟩
   ·have hj' : j = c := by omega
    subst hj'
    have f2 := nltI j
    simp -dsimp only [go_sem, s6, s9, s10, s13, s14, f2]
    exact ⟨hE.trans (hE2.trans hE3), _, rfl, oa, by rw [hlen], hO.sl⟩
theorem miExt {x y : MI} (h : x.v = y.v) : x = y := by cases x; cases y; simp at h; rw [h]
theorem s_EqR {H : Heap} {v w : Value} {f g : List Rat} (hv : LV H v f) (hw : LV H w g) (lf : f.length ≤ 1000000) (lg : g.length ≤ 1000000) (lk : Nat) : q0c prog md lk 25 [v, w] H = some (.bool (decide (f = g)), H) := by
 obtain ⟨a, rfl, hs⟩ := hv
 obtain ⟨b, rfl, ht⟩ := hw
 refine q0a rfl Tryz.func25 rfl rfl ?_
 by_cases hl : f.length = g.length
 ·have f1 : ((f.length : Int) = (g.length : Int)) = True := eq_true (by omega)
  simp -dsimp only [go_sem, f1]
  refine q0h (m := fun (i : Nat) => f.length - i) (I := fun i σ H2 => i ≤ f.length ∧ f.take i = g.take i ∧ H2 = H ∧ σ 0 = .slice a f.length f.length ∧ σ 1 = .slice b g.length g.length ∧ σ 12 = .int .i64 (f.length : Int) ∧ σ 13 = .int .i64 (i : Int)) 0 ⟨Nat.zero_le _, rfl, rfl, rfl, rfl, rfl, rfl⟩ ?_
  rintro i σ H2 ⟨h2, h3, rfl, s0, s1, s12, s13⟩
  by_cases hi : i < f.length
  ·have f2 : ((i : Int) < (f.length : Int)) = True := eq_true (by omega)
   have e7 : IntKind.i64.wrap ((i : Int) + 1) = ((i + 1 : Nat) : Int) := by rw [w64 (by omega) (by omega)]; omega
   obtain ⟨p, hp, hld⟩ := hs.ix i hi q0o
   obtain ⟨q, hq, hld2⟩ := ht.ix i (by omega) q0o
   have hld := hld _ (Ext.refl _)
   have hld2 := hld2 _ (Ext.refl _)
   by_cases he : f[i] = g[i]
   ·simp -dsimp only [go_sem, s0, s1, s12, s13, f2, e7, hp, hld, hq, hld2, he]
    refine next (i + 1) (by show f.length - (i + 1) < f.length - i; omega) ⟨hi, ?_, rfl, s0, s1, s12, rfl⟩
    rw [List.take_add_one, List.take_add_one, List.getElem?_eq_getElem hi, List.getElem?_eq_getElem (show i < g.length by omega), h3, he]
   ·have hne : (f = g) = False := eq_false (fun h => he (by subst h; rfl))
    simp -dsimp only [go_sem, s0, s1, s12, s13, f2, e7, hp, hld, hq, hld2, he, hne]
  ·have hi' : i = f.length := by omega
   subst hi'
   have f2 : ((f.length : Int) < (f.length : Int)) = False := eq_false (by omega)
   have he : (f = g) = True := eq_true (by rw [List.take_length, hl, List.take_length] at h3; exact h3)
   simp -dsimp only [go_sem, s0, s1, s12, s13, f2, he]
 ·have f1 : ((f.length : Int) = (g.length : Int)) = False := eq_false (by omega)
  have hne : (f = g) = False := eq_false (fun h => hl (by rw [h]))
  simp -dsimp only [go_sem, f1, hne]
theorem r5_SameV {H : Heap} {v w : Value} {f g : List Rat} (hv : LV H v f) (hw : LV H w g) (lf : f.length ≤ 1000000) (lg : g.length ≤ 1000000) (lk : Nat) : q0c prog md lk 64 [v, w] H = some (.bool (decide (f = g)), H) := by
 obtain ⟨a, rfl, hs⟩ := hv
 obtain ⟨b, rfl, ht⟩ := hw
 refine q0a rfl Tryz.func64 rfl rfl ?_
 by_cases hl : f.length = g.length
 ·have f1 : ((f.length : Int) = (g.length : Int)) = True := eq_true (by omega)
  simp -dsimp only [go_sem, f1]
  refine q0h (m := fun (i : Nat) => f.length - i) (I := fun i σ H2 => i ≤ f.length ∧ f.take i = g.take i ∧ H2 = H ∧ σ 0 = .slice a f.length f.length ∧ σ 1 = .slice b g.length g.length ∧ σ 12 = .int .i64 (f.length : Int) ∧ σ 13 = .int .i64 (i : Int)) 0 ⟨Nat.zero_le _, rfl, rfl, rfl, rfl, rfl, rfl⟩ ?_
  rintro i σ H2 ⟨h2, h3, rfl, s0, s1, s12, s13⟩
  by_cases hi : i < f.length
  ·have f2 : ((i : Int) < (f.length : Int)) = True := eq_true (by omega)
   have e7 : IntKind.i64.wrap ((i : Int) + 1) = ((i + 1 : Nat) : Int) := by rw [w64 (by omega) (by omega)]; omega
   obtain ⟨p, hp, hld⟩ := hs.ix i hi q0o
   obtain ⟨q, hq, hld2⟩ := ht.ix i (by omega) q0o
   have hld := hld _ (Ext.refl _)
   have hld2 := hld2 _ (Ext.refl _)
   by_cases he : f[i] = g[i]
   ·simp -dsimp only [go_sem, s0, s1, s12, s13, f2, e7, hp, hld, hq, hld2, he]
    refine next (i + 1) (by show f.length - (i + 1) < f.length - i; omega) ⟨hi, ?_, rfl, s0, s1, s12, rfl⟩
    rw [List.take_add_one, List.take_add_one, List.getElem?_eq_getElem hi, List.getElem?_eq_getElem (show i < g.length by omega), h3, he]
   ·have hne : (f = g) = False := eq_false (fun h => he (by subst h; rfl))
    simp -dsimp only [go_sem, s0, s1, s12, s13, f2, e7, hp, hld, hq, hld2, he, hne]
  ·have hi' : i = f.length := by omega
   subst hi'
   have f2 : ((f.length : Int) < (f.length : Int)) = False := eq_false (by omega)
   have he : (f = g) = True := eq_true (by rw [List.take_length, hl, List.take_length] at h3; exact h3)
   simp -dsimp only [go_sem, s0, s1, s12, s13, f2, he]
 ·have f1 : ((f.length : Int) = (g.length : Int)) = False := eq_false (by omega)
  have hne : (f = g) = False := eq_false (fun h => hl (by rw [h]))
  simp -dsimp only [go_sem, f1, hne]
theorem s_EqI {H : Heap} {v w : Value} {f g : List MI} (hv : LV H v f) (hw : LV H w g) (lf : f.length ≤ 1000000) (lg : g.length ≤ 1000000) (lk : Nat) : q0c prog md lk 34 [v, w] H = some (.bool (decide (f = g)), H) := by
 obtain ⟨a, rfl, hs⟩ := hv
 obtain ⟨b, rfl, ht⟩ := hw
 refine q0a rfl Tryz.func34 rfl rfl ?_
 by_cases hl : f.length = g.length
 ·have f1 : ((f.length : Int) = (g.length : Int)) = True := eq_true (by omega)
  simp -dsimp only [go_sem, f1]
  refine q0h (m := fun (i : Nat) => f.length - i) (I := fun i σ H2 => i ≤ f.length ∧ f.take i = g.take i ∧ H2 = H ∧ σ 0 = .slice a f.length f.length ∧ σ 1 = .slice b g.length g.length ∧ σ 12 = .int .i64 (f.length : Int) ∧ σ 13 = .int .i64 (i : Int)) 0 ⟨Nat.zero_le _, rfl, rfl, rfl, rfl, rfl, rfl⟩ ?_
  rintro i σ H2 ⟨h2, h3, rfl, s0, s1, s12, s13⟩
  by_cases hi : i < f.length
  ·have f2 : ((i : Int) < (f.length : Int)) = True := eq_true (by omega)
   have e7 : IntKind.i64.wrap ((i : Int) + 1) = ((i + 1 : Nat) : Int) := by rw [w64 (by omega) (by omega)]; omega
   obtain ⟨b1, o1, B1, rfl, hB1, z1, g1⟩ := hs.mi i hi
   obtain ⟨b2, o2, B2, rfl, hB2, z2, g2⟩ := ht.mi i (by omega)
   have f3 : ((i : Int) < (g.length : Int)) = True := eq_true (by omega)
   by_cases he : f[i].v = g[i].v
   ·simp -dsimp only [go_sem, s0, s1, s12, s13, f2, e7, f3, hB1, z1, g1, hB2, z2, g2, he]
    refine next (i + 1) (by show f.length - (i + 1) < f.length - i; omega) ⟨hi, ?_, rfl, s0, s1, s12, rfl⟩
    rw [List.take_add_one, List.take_add_one, List.getElem?_eq_getElem hi, List.getElem?_eq_getElem (show i < g.length by omega), h3, miExt he]
   ·have hne : (f = g) = False := eq_false (fun h => he (by subst h; rfl))
    simp -dsimp only [go_sem, s0, s1, s12, s13, f2, e7, f3, hB1, z1, g1, hB2, z2, g2, he, hne]
  ·have hi' : i = f.length := by omega
   subst hi'
   have f2 : ((f.length : Int) < (f.length : Int)) = False := eq_false (by omega)
   have he : (f = g) = True := eq_true (by rw [List.take_length, hl, List.take_length] at h3; exact h3)
   simp -dsimp only [go_sem, s0, s1, s12, s13, f2, he]
 ·have f1 : ((f.length : Int) = (g.length : Int)) = False := eq_false (by omega)
  have hne : (f = g) = False := eq_false (fun h => hl (by rw [h]))
  simp -dsimp only [go_sem, f1, hne]
theorem r5_Same {H : Heap} {v w : Value} {f g : List (List Rat)} (hv : MV H v f) (hw : MV H w g) (lf : f.length ≤ 1000000) (lg : g.length ≤ 1000000) (rf : ∀ r ∈ f, r.length ≤ 1000000) (rg : ∀ r ∈ g, r.length ≤ 1000000) (lk : Nat) : q0c prog md lk 18 [v, w] H = some (.bool (decide (f = g)), H) := by
 obtain ⟨a, rfl⟩ := hv.is
 obtain ⟨b, rfl⟩ := hw.is
 refine q0a rfl Tryz.func18 rfl rfl ?_
 by_cases hl : f.length = g.length
 ·have f1 : ((f.length : Int) = (g.length : Int)) = True := eq_true (by omega)
  simp -dsimp only [go_sem, f1]
  refine q0h (m := fun (i : Nat) => f.length - i) (I := fun i σ H2 => i ≤ f.length ∧ f.take i = g.take i ∧ H2 = H ∧ σ 0 = .slice a f.length f.length ∧ σ 1 = .slice b g.length g.length ∧ σ 12 = .int .i64 (f.length : Int) ∧ σ 13 = .int .i64 (i : Int)) 0 ⟨Nat.zero_le _, rfl, rfl, rfl, rfl, rfl, rfl⟩ ?_
  rintro i σ H2 ⟨h2, h3, rfl, s0, s1, s12, s13⟩
  by_cases hi : i < f.length
  ·have f2 : ((i : Int) < (f.length : Int)) = True := eq_true (by omega)
   have e7 : IntKind.i64.wrap ((i : Int) + 1) = ((i + 1 : Nat) : Int) := by rw [w64 (by omega) (by omega)]; omega
   obtain ⟨p, c, hp, hld, hsp⟩ := hv.ix q4t i hi
   obtain ⟨q, d, hq, hld2, hsq⟩ := hw.ix q4t i (by omega)
   have hld := hld _ (Ext.refl _)
   have hld2 := hld2 _ (Ext.refl _)
   have kS := fun lk => r5_SameV (v := .slice c f[i].length f[i].length) (w := .slice d g[i].length g[i].length) ⟨c, rfl, hsp⟩ ⟨d, rfl, hsq⟩ (rf _ (List.getElem_mem hi)) (rg _ (List.getElem_mem _)) lk
   by_cases he : f[i] = g[i]
   ·rw [decide_eq_true he] at kS
    simp -dsimp only [go_sem, s0, s1, s12, s13, f2, e7, hp, hld, hq, hld2, kS]
    refine next (i + 1) (by show f.length - (i + 1) < f.length - i; omega) ⟨hi, ?_, rfl, s0, s1, s12, rfl⟩
    rw [List.take_add_one, List.take_add_one, List.getElem?_eq_getElem hi, List.getElem?_eq_getElem (show i < g.length by omega), h3, he]
   ·have hne : (f = g) = False := eq_false (fun h => he (by subst h; rfl))
    rw [decide_eq_false he] at kS
    simp -dsimp only [go_sem, s0, s1, s12, s13, f2, e7, hp, hld, hq, hld2, kS, hne]
  ·have hi' : i = f.length := by omega
   subst hi'
   have f2 : ((f.length : Int) < (f.length : Int)) = False := eq_false (by omega)
   have he : (f = g) = True := eq_true (by rw [List.take_length, hl, List.take_length] at h3; exact h3)
   simp -dsimp only [go_sem, s0, s1, s12, s13, f2, he]
 ·have f1 : ((f.length : Int) = (g.length : Int)) = False := eq_false (by omega)
  have hne : (f = g) = False := eq_false (fun h => hl (by rw [h]))
  simp -dsimp only [go_sem, f1, hne]
def smB (q : Rat) : Bool := decide (q.num.natAbs < 256 ^ 100) && decide (q.den < 256 ^ 100)
theorem smB_sm {q : Rat} (h : smB q = true) : Sm 100 q := by
 unfold smB at h
 rw [Bool.and_eq_true, decide_eq_true_iff, decide_eq_true_iff] at h
 exact ⟨w0w h.1, w0w h.2⟩
def q4s (M : List (List Rat)) : Bool := M.all fun r => r.all smB
theorem q7t {M : List (List Rat)} (h : q4s M = true) (i j : Nat) : Sm 100 (qf (rw' M i) j) := by
 by_cases hi : i < M.length
 ·rw [q1o hi]
  by_cases hj : j < M[i].length
  ·rw [q1y hj]
   exact smB_sm (List.all_eq_true.1 (List.all_eq_true.1 h _ (List.getElem_mem hi)) _ (List.getElem_mem hj))
  ·rw [q2a (by omega)]; exact sm_zero.mono (by decide)
 ·rw [show rw' M i = [] by unfold rw'; rw [List.getD_eq_getElem?_getD, List.getElem?_eq_none (by omega)]; rfl, q2a (Nat.zero_le _)]
  exact sm_zero.mono (by decide)
def rdOne (s : List (List Rat) × List Nat) (k : Nat) : Bool :=
 if s.2.length < s.1.length then q4s (rdM s.1 s.2.length (fnz s.1 k (s.1.length - s.2.length) s.2.length) k) else true
def rdG (M : List (List Rat)) : Nat → (List (List Rat) × List Nat) × Bool
 | 0 => ((M, []), q4s M)
 | k + 1 => (q5o (rdG M k).1 k, (rdG M k).2 && (q4s (q5o (rdG M k).1 k).1 && rdOne (rdG M k).1 k))
theorem rdG_1 (M : List (List Rat)) : ∀ k, (rdG M k).1 = rdS M k
 | 0 => rfl
 | k + 1 => by rw [rdG, rdS, rdG_1 M k]
theorem rdG_2 (M : List (List Rat)) : ∀ k, (rdG M k).2 = true → (∀ j, j ≤ k → q4s (rdS M j).1 = true) ∧ ∀ j, j < k → rdOne (rdS M j) j = true
 | 0, h => ⟨fun j hj => by rw [show j = 0 by omega]; exact h, fun j hj => by omega⟩
 | k + 1, h => by
  rw [rdG, rdG_1] at h
  simp only [Bool.and_eq_true] at h
  obtain ⟨h1, h2⟩ := rdG_2 M k h.1
  refine ⟨fun j hj => ?_, fun j hj => ?_⟩
  ·by_cases he : j = k + 1
   ·rw [he]; exact h.2.1
   ·exact h1 j (by omega)
  ·by_cases he : j = k
   ·rw [he]; exact h.2.2
   ·exact h2 j (by omega)
theorem RdOk.of {M : List (List Rat)} {w : Nat} (h : (rdG M w).2 = true) : RdOk M w := by
 obtain ⟨h1, h2⟩ := rdG_2 M w h
 refine ⟨fun k hk i j => (q7t (h1 k hk) i j).mono (by decide), fun k hk ht _ => ?_⟩
 have h3 := h2 k hk
 unfold rdOne at h3
 rw [q7y, if_pos ht] at h3
 exact ⟨fun i j => (q7t h3 i j).mono (by decide), fun i j => (sm_mul (q7t h3 i k) (q7t h3 _ j)).mono (by decide)⟩
def intC (f : List Rat) : Bool := f.all fun q => decide (q.den = 1) && decide (q.num.natAbs ≤ 2 ^ 100)
theorem intC_l {f : List Rat} (h : intC f = true) : IntL (2 ^ 100) f := .of fun x hx => by
 have := List.all_eq_true.1 h x hx
 rw [Bool.and_eq_true, decide_eq_true_iff, decide_eq_true_iff] at this
 exact ⟨this.1, this.2⟩
theorem mulOk_C {f g : List Rat} (hf : intC f = true) (hg : intC g = true) (lf : f.length ≤ 40) : MulOk f g := by
 refine .int (intC_l hf) (intC_l hg) (q2p (k := 100) (Nat.le_refl _) (by decide)) (q2p (k := 100) (Nat.le_refl _) (by decide)) (q2p (k := 210) ?_ (by decide))
 have : (f.length + 1) * (2 ^ 100 * 2 ^ 100) ≤ 41 * (2 ^ 100 * 2 ^ 100) := Nat.mul_le_mul_right _ (by omega)
 exact Nat.le_trans this (by decide)
theorem xdOk_C {p : Nat} (hp : p ∈ P9) {f g : List Rat} (hf : intC f = true) (hg : intC g = true) (lf : f.length ≤ 40) (lg : g.length ≤ 40) : XdOk (pMul f g) (phiP p) := by
 obtain ⟨hp2, hp23⟩ := q3a hp
 have hM := (intC_l hf).mul (intC_l hg)
 have hml := q7a f g
 refine .int (hM.mono (c := 40 * (2 ^ 100 * 2 ^ 100)) (Nat.mul_le_mul_right _ lf)) (q4m p) (q8x (by omega)) (q2p (k := 1) (by decide) (by decide)) (q2p (k := 206 + 80) ?_ (by decide))
 have : (1 + 1) ^ ((pMul f g).length - (phiP p).length + 1) ≤ 2 ^ 80 := Nat.pow_le_pow_right (by decide) (by omega)
 refine Nat.le_trans (Nat.mul_le_mul (show 40 * (2 ^ 100 * 2 ^ 100) ≤ 2 ^ 206 by decide) this) ?_
 exact Nat.le_of_eq (Nat.pow_add 2 206 80).symm
theorem intC_sz {f : List Rat} (h : intC f = true) : SzL f := (intC_l h).szL (q2p (k := 100) (Nat.le_refl _) (by decide))
def lenC (f : List Rat) : Bool := decide (f.length ≤ 40)
def okC (f : List Rat) : Bool := intC f && lenC f
theorem w3x {f : List Rat} (h : okC f = true) : intC f = true ∧ f.length ≤ 40 := by
 unfold okC lenC at h
 rw [Bool.and_eq_true, decide_eq_true_iff] at h
 exact h
def nxC (phi x : List Rat) (P : List (List Rat)) : Bool := (List.range P.length).all fun k => okC (rw' P k) && (okC (rw' (nxS phi x P k) (k + 1)) && (okC (rw' (nxA (nxS phi x P k) P k) k) && okC (pMod (pMul (rw' P k) x) phi)))
theorem NxOk.of {p : Nat} (hp : p ∈ P9) {x : List Rat} {P : List (List Rat)} (hx : okC x = true) (h : nxC (phiP p) x P = true) : NxOk (phiP p) x P := by
 have key : ∀ k, k < P.length → okC (rw' P k) = true ∧ okC (rw' (nxS (phiP p) x P k) (k + 1)) = true ∧ okC (rw' (nxA (nxS (phiP p) x P k) P k) k) = true ∧ okC (pMod (pMul (rw' P k) x) (phiP p)) = true := fun k hk => by
  have := List.all_eq_true.1 h k (List.mem_range.2 hk)
  simp only [Bool.and_eq_true] at this
  exact this
 have hx := w3x hx
 refine ⟨fun k hk => ?_, by omega, fun k hk => ?_, fun k hk => ?_, fun k hk => w2r _ _, fun k hk => ?_⟩
 all_goals
  obtain ⟨k1, k2, k3, k4⟩ := key k hk
  replace k1 := w3x k1
  replace k2 := w3x k2
  replace k3 := w3x k3
  replace k4 := w3x k4
 ·omega
 ·exact ⟨intC_sz k1.1, intC_sz k2.1, intC_sz k3.1, intC_sz k4.1⟩
 ·exact mulOk_C k1.1 hx.1 k1.2
 ·exact xdOk_C hp k1.1 hx.1 k1.2 hx.2
def plC (phi : List Rat) (L : List (List Rat)) : Bool := (List.range L.length).all fun i => okC (rw' L i) && nxC phi (rw' L i) (plS phi L i)
theorem plC_ok {p : Nat} (hp : p ∈ P9) {L : List (List Rat)} (h : plC (phiP p) L = true) (i : Nat) (hi : i < L.length) : NxOk (phiP p) (rw' L i) (plS (phiP p) L i) := by
 have := List.all_eq_true.1 h i (List.mem_range.2 hi)
 rw [Bool.and_eq_true] at this
 exact .of hp this.1 this.2
def tabC (p f : Nat) : Bool := decide ((q0f p f).length ≤ 22) && (List.range (q0f p f).length).all fun i => okC (rw' (q0f p f) i) && (decide ((rw' (q0f p f) i).length ≤ 22) && (rdG (exM (p - 1) (q0f p f) (pMod (pMul (rw' (q0f p f) 0) (rw' (q0f p f) i)) (phiP p))) (q0f p f).length).2)
theorem TabOk.of {p f : Nat} (hp : p ∈ P9) (h : tabC p f = true) : TabOk p f := by
 unfold tabC at h
 rw [Bool.and_eq_true, decide_eq_true_iff] at h
 obtain ⟨h0, h⟩ := h
 have key : ∀ i, i < (q0f p f).length → okC (rw' (q0f p f) i) = true ∧ (rw' (q0f p f) i).length ≤ 22 ∧ (rdG (exM (p - 1) (q0f p f) (pMod (pMul (rw' (q0f p f) 0) (rw' (q0f p f) i)) (phiP p))) (q0f p f).length).2 = true := fun i hi => by
  have := List.all_eq_true.1 h i (List.mem_range.2 hi)
  simp only [Bool.and_eq_true, decide_eq_true_iff] at this
  exact this
 refine ⟨h0, fun i hi => (key i hi).2.1, fun i hi => ?_, fun i hi => w2r _ _, fun i hi => ?_, fun i hi => .of (key i hi).2.2⟩
 ·exact mulOk_C (w3x (key 0 (by omega)).1).1 (w3x (key i hi).1).1 (w3x (key 0 (by omega)).1).2
 ·exact xdOk_C hp (w3x (key 0 (by omega)).1).1 (w3x (key i hi).1).1 (w3x (key 0 (by omega)).1).2 (w3x (key i hi).1).2
theorem aw_poly2 : polyL 7 2 = pOf (mis [-1, -2, 1, 1]) := by decide +kernel
theorem aw_poly3 : polyL 7 3 = pOf (mis [2, 1, 1]) := by decide +kernel
theorem aw_sub : subL 7 3 = [1, 2, 4] := by decide +kernel
theorem aw_tab : tabL 5 2 (q0f 5 2).length = [[-2, -1], [1, 1]] := by decide +kernel
theorem aw_gs : gsL 3 = pOf (mis [1, 2]) := by decide +kernel
theorem aw_c1 : q3e (7 - 1) (q0f 7 3) (pOf (mis [1])) = some [-1, -1] := by decide +kernel
theorem aw_c2 : q3e (7 - 1) (q0f 7 3) (pOf (mis [0, 1])) = none := by decide +kernel
theorem aw_k2 : plC (phiP 7) (q0f 7 2) = true := by decide +kernel
theorem aw_k3 : plC (phiP 7) (q0f 7 3) = true := by decide +kernel
theorem aw_kt : tabC 5 2 = true := by decide +kernel
theorem aw_r1 : (rdG (exM (7 - 1) (q0f 7 3) (pOf (mis [1]))) (q0f 7 3).length).2 = true := by decide +kernel
theorem aw_r2 : (rdG (exM (7 - 1) (q0f 7 3) (pOf (mis [0, 1]))) (q0f 7 3).length).2 = true := by decide +kernel
theorem aw_e1 : elE (phiP 7) ((pOf (mis [1])).map rq) = 0 := by decide +kernel
theorem aw_e2 : elE (phiP 7) ((pOf (mis [0, 1])).map rq) = 0 := by decide +kernel
theorem aw_l2 : (q0f 7 2).length = 3 := by decide +kernel
theorem aw_l3 : (q0f 7 3).length = 2 := by decide +kernel
theorem mis_blk (H : Heap) (l : List Int) : LV (H ++ [⟨q0g (mis l), 1, false⟩]) (.slice (some ⟨H.length, 0, none⟩) l.length l.length) (mis l) := ⟨some ⟨H.length, 0, none⟩, by simp [mis], SL.blk (by rw [q0j]; rfl)⟩
theorem r6_OfO {H : Heap} (l : List Int) (hl : l.length ≤ 1000000) (hi : ∀ x ∈ l, I64 x) : q4k 41 [.slice (some ⟨H.length, 0, none⟩) l.length l.length] (H ++ [⟨q0g (mis l), 1, false⟩]) (fun v H' => LV H' v (pOf (mis l))) :=
 ((r6_Of (mis_blk H l) (by simpa [mis] using hl) (fun x hx => by obtain ⟨y, hy, rfl⟩ := List.mem_map.1 hx; exact hi y hy)).mono fun v H' _ h => h.lv).o
theorem l48_awake (lk : Nat) (H : Heap) : q0c prog mdO lk 16 [] H = some (.bool true, H) := by
 refine q0a rfl Tryz.func16 rfl rfl ?_
 simp -dsimp only [go_sem]
 have p7 : 7 ∈ P9 := by decide
 have p5 : 5 ∈ P9 := by decide
 have p3 : 3 ∈ P9 := by decide
 refine q2t (p_SubgroupOk (p := 7) (f := 3) p7 (by decide) (by decide) (by decide +kernel) H).o (by omega) ?_
 rintro v1 H1 hE1 ⟨w1, rfl, h1⟩
 rw [aw_sub] at h1
 have hl1 := hE1.le
 simp -dsimp only [go_sem]
 refine q2t (p_Poly (p := 7) (f := 2) p7 (by decide) (by decide) (by decide +kernel) (by rw [aw_l2]; decide) (plC_ok p7 aw_k2) H1) (by omega) ?_
 rintro v2 H2 hE2 ⟨w2, rfl, h2⟩
 rw [aw_poly2] at h2
 have hl2 := hE2.le
 simp -dsimp only [go_sem]
 refine q2t (p_Poly (p := 7) (f := 3) p7 (by decide) (by decide) (by decide +kernel) (by rw [aw_l3]; decide) (plC_ok p7 aw_k3) H2) (by omega) ?_
 rintro v3 H3 hE3 ⟨w3, rfl, h3⟩
 rw [aw_poly3] at h3
 have hl3 := hE3.le
 simp -dsimp only [go_sem]
 refine q2t (p_Table (p := 5) (f := 2) p5 (by decide) (by decide) (by decide +kernel) (.of p5 aw_kt) H3) (by omega) ?_
 rintro v4 H4 hE4 ⟨w4, rfl, h4⟩
 rw [aw_tab] at h4
 have hl4 := hE4.le
 simp -dsimp only [go_sem]
 refine q2t (w2q (p := 3) p3 (by decide) H4).o (by omega) ?_
 rintro v5 H5 hE5 ⟨w5, rfl, h5⟩
 rw [aw_gs] at h5
 have hl5 := hE5.le
 simp -dsimp only [go_sem, reps]
 refine q2t (r6_OfO (H := H5) [1] (by decide) (by decide)) (by simp; omega) ?_
 rintro v6 H6 hE6 h6
 have hE6' := (Ext.app _ _).trans hE6
 have hl6 := hE6'.le
 simp -dsimp only [go_sem, reps]
 refine q2t (p_Coord (p := 7) (f := 3) p7 (by decide) (by decide) (by decide +kernel) h6 aw_e1 (by rw [aw_l3]; decide) (.of aw_r1)) (by omega) ?_
 rintro v7 H7 hE7 h7
 rw [aw_c1] at h7
 simp only at h7
 rw [if_neg (by decide +kernel)] at h7
 obtain ⟨w7, rfl, h7⟩ := h7
 have hl7 := hE7.le
 simp -dsimp only [go_sem, reps]
 refine q2t (r6_OfO (H := H7) [0, 1] (by decide) (by decide)) (by simp; omega) ?_
 rintro v8 H8 hE8 h8
 have hE8' := (Ext.app _ _).trans hE8
 have hl8 := hE8'.le
 simp -dsimp only [go_sem, reps]
 refine q2t (p_Coord (p := 7) (f := 3) p7 (by decide) (by decide) (by decide +kernel) h8 aw_e2 (by rw [aw_l3]; decide) (.of aw_r2)) (by omega) ?_
 rintro v9 H9 hE9 h9
 rw [aw_c2] at h9
 simp only at h9
 subst h9
 have hl9 := hE9.le
 obtain ⟨x1, hx1⟩ : ∃ x : Rat, x = ((1 : Int) : Rat) := ⟨_, rfl⟩
 obtain ⟨x2, hx2⟩ : ∃ x : Rat, x = ((-1 : Int) : Rat) := ⟨_, rfl⟩
 obtain ⟨x3, hx3⟩ : ∃ x : Rat, x = ((-2 : Int) : Rat) := ⟨_, rfl⟩
 have kf := fun x hx lk H => q1g mdLe (q3k lk H x hx)
 have k1 := kf 1 (by decide)
 have k2 := kf (-1) (by decide)
 have k3 := kf (-2) (by decide)
 rw [← hx1] at k1
 rw [← hx2] at k2
 rw [← hx3] at k3
 simp -dsimp only [go_sem, reps, k1, k2, k3]
 refine ⟨by omega, by omega, ?_⟩
 obtain ⟨H10, hH10⟩ : ∃ H10, H10 = H9 ++ [⟨rC x2, 3, false⟩, ⟨rC x1, 3, false⟩, ⟨rC x3 ++ rC x2, 3, false⟩, ⟨rC x1 ++ rC x1, 3, false⟩, ⟨[.slice (some ⟨H9.length + 2, 0, none⟩) 2 2, .slice (some ⟨H9.length + 3, 0, none⟩) 2 2], 1, false⟩, ⟨q0g (mis [1, 2, 4]), 1, false⟩] := ⟨_, rfl⟩
 have hE10 : Ext H9 H10 := by rw [hH10]; exact Ext.app _ _
 have hl10 := hE10.le
 have b0 : q0e H10 H9.length = some ⟨rC x2, 3, false⟩ := by rw [hH10, q9f]; rfl
 have b2 : q0e H10 (H9.length + 2) = some ⟨rC x3 ++ rC x2, 3, false⟩ := by rw [hH10, q2q]; rfl
 have b3 : q0e H10 (H9.length + 3) = some ⟨rC x1 ++ rC x1, 3, false⟩ := by rw [hH10, q2q]; rfl
 have b4 : q0e H10 (H9.length + 4) = some ⟨[.slice (some ⟨H9.length + 2, 0, none⟩) 2 2, .slice (some ⟨H9.length + 3, 0, none⟩) 2 2], 1, false⟩ := by rw [hH10, q2q]; rfl
 have b5 : q0e H10 (H9.length + 5) = some ⟨q0g (mis [1, 2, 4]), 1, false⟩ := by rw [hH10, q2q]; rfl
 have hEa' := hE8'.trans (hE9.trans hE10)
 have hv5 : LV H10 (.slice (some ⟨H9.length + 5, 0, none⟩) 3 3) (mis [1, 2, 4]) := ⟨_, rfl, SL.blk b5⟩
 have hM : MV H10 (.slice (some ⟨H9.length + 4, 0, none⟩) 2 2) [[-2, -1], [1, 1]] := by
  refine ⟨some ⟨H9.length + 4, 0, none⟩, [⟨some ⟨H9.length + 2, 0, none⟩, 2⟩, ⟨some ⟨H9.length + 3, 0, none⟩, 2⟩], rfl, SL.blk b4, rfl, fun i h1 h2 => ?_⟩
  simp only [List.length_cons, List.length_nil] at h1
  have : i = 0 ∨ i = 1 := by omega
  rcases this with rfl | rfl
  ·refine ⟨rfl, SL.blk (l := [(-2 : Rat), -1]) ?_⟩
   rw [b2, hx3, hx2]; rfl
  ·refine ⟨rfl, SL.blk (l := [(1 : Rat), 1]) ?_⟩
   rw [b3, hx1]; rfl
 have hEa := ((((((hE2.trans hE3).trans hE4).trans hE5).trans hE6').trans hE7).trans hE8').trans (hE9.trans hE10)
 have q1 := fun lk => q1g mdLe (s_EqI (h1.ext hEa) hv5 (by decide) (by decide) lk)
 rw [decide_eq_true rfl] at q1
 rw [show [w1, Value.slice (some ⟨H9.length + 5, 0, none⟩) 3 3] = [w1, Value.slice (some ⟨H9.length + 5, 0, none⟩) 3 3] from rfl]
 have hH10' := hH10
 simp only [rC, q0g, mis, List.map_cons, List.map_nil, List.flatMap_cons, List.flatMap_nil, Enc.enc, List.append_nil, List.cons_append, List.nil_append] at hH10'
 rw [← hH10']
 simp -dsimp only [go_sem, reps, q1]
 refine q2t (r6_OfO (H := H10) [-1, -2, 1, 1] (by decide) (by decide)) (by simp; omega) ?_
 rintro u11 H11 hE11 g11
 replace hE11 := (Ext.app _ _).trans hE11
 have hl11 := hE11.le
 have q11 := fun lk => q1g mdLe (w2k (h2.ext (((((((hE3.trans hE4).trans hE5).trans hE6').trans hE7).trans hE8').trans (hE9.trans hE10)).trans hE11)) g11 (by decide +kernel) (by decide +kernel) lk)
 rw [decide_eq_true rfl] at q11
 simp -dsimp only [go_sem, reps, q11]
 refine q2t (r6_OfO (H := H11) [2, 1, 1] (by decide) (by decide)) (by simp; omega) ?_
 rintro u12 H12 hE12 g12
 replace hE12 := (Ext.app _ _).trans hE12
 have hl12 := hE12.le
 have q12 := fun lk => q1g mdLe (w2k (h3.ext ((((((hE4.trans hE5).trans hE6').trans hE7).trans hE8').trans (hE9.trans hE10)).trans (hE11.trans hE12))) g12 (by decide +kernel) (by decide +kernel) lk)
 rw [decide_eq_true rfl] at q12
 have qm := fun lk => q1g mdLe (r5_Same (h4.ext (((((hE5.trans hE6').trans hE7).trans hE8').trans (hE9.trans hE10)).trans (hE11.trans hE12))) (hM.ext (hE11.trans hE12)) (by decide) (by decide) (by decide) (by decide) lk)
 rw [decide_eq_true rfl] at qm
 simp -dsimp only [go_sem, reps, q12, qm]
 refine q2t (r6_OfO (H := H12) [1, 2] (by decide) (by decide)) (by simp; omega) ?_
 rintro u13 H13 hE13 g13
 replace hE13 := (Ext.app _ _).trans hE13
 have hl13 := hE13.le
 have q13 := fun lk => q1g mdLe (w2k (h5.ext ((((hE6'.trans hE7).trans hE8').trans (hE9.trans hE10)).trans ((hE11.trans hE12).trans hE13))) g13 (by decide +kernel) (by decide +kernel) lk)
 rw [decide_eq_true rfl] at q13
 have b13 := ((hE11.trans hE12).trans hE13).live b0
 have hE13 := ((hEa'.trans hE11).trans hE12).trans hE13
 have hr : LV (H13 ++ [⟨rC x2 ++ rC x2, 3, false⟩]) (.slice (some ⟨H13.length, 0, none⟩) 2 2) [(-1 : Rat), -1] := ⟨_, rfl, SL.blk (by rw [q0j, hx2]; rfl)⟩
 have q14 := fun lk => q1g mdLe (s_EqR ((h7.ext hE13).ext (Ext.app H13 [⟨rC x2 ++ rC x2, 3, false⟩])) hr (by decide) (by decide) lk)
 rw [decide_eq_true rfl] at q14
 simp only [rC, List.cons_append, List.nil_append] at q14 b13
 simp -dsimp only [go_sem, reps, q13, b13, q14]
end Gx
end
section
/- Both periods are the same, evaluated. -/
set_option autoImplicit false
namespace Gx
open Go Go.Proofs
open Go.Proofs.Tryz (prog)
set_option maxRecDepth 100000
set_option maxHeartbeats 0
def perC (p : Nat) : Bool := (List.range p).all fun f => !(decide (1 ≤ f) && decide ((p - 1) % f = 0)) || (List.range p).all fun r => decide (perL p f (r : Int) = perR p f r)
theorem perC2 : perC 2 = true := by decide +kernel
theorem perC3 : perC 3 = true := by decide +kernel
theorem perC5 : perC 5 = true := by decide +kernel
theorem perC7 : perC 7 = true := by decide +kernel
theorem perC11 : perC 11 = true := by decide +kernel
theorem perC13 : perC 13 = true := by decide +kernel
theorem perC17 : perC 17 = true := by decide +kernel
theorem perC19 : perC 19 = true := by decide +kernel
theorem perC23 : perC 23 = true := by decide +kernel
theorem perC9 {p : Nat} (h : p ∈ P9) : perC p = true := by
 simp only [P9, List.mem_cons, List.not_mem_nil, or_false] at h
 rcases h with rfl | rfl | rfl | rfl | rfl | rfl | rfl | rfl | rfl
 ·exact perC2
 ·exact perC3
 ·exact perC5
 ·exact perC7
 ·exact perC11
 ·exact perC13
 ·exact perC17
 ·exact perC19
 ·exact perC23
theorem perL_mod (p f : Nat) (a : Int) : perL p f a = perL p f (a % (p : Int)) := by
 unfold perL
 rw [show perT p f a = perT p f (a % (p : Int)) by funext b; unfold perT; rw [Int.emod_emod]]
theorem q5s {p f : Nat} (h : pCkB (p : Int) (f : Int) = 0) : p ∈ P9 ∧ 1 ≤ f ∧ (p - 1) % f = 0 ∧ f < p := by
 obtain ⟨h1, h2, h3, h4, h5⟩ := ckB_zero h
 have e : (p : Int) - 1 = ((p - 1 : Nat) : Int) := by omega
 rw [e] at h5
 have h6 : (p - 1) % f = 0 := by
  have : (((p - 1) % f : Nat) : Int) = 0 := h5
  omega
 refine ⟨by simpa using h3, by omega, h6, ?_⟩
 have := Nat.le_of_dvd (by omega) (Nat.dvd_of_mod_eq_zero h6)
 omega
theorem perLR {p f : Nat} (h : pCkB (p : Int) (f : Int) = 0) (a : Int) : perL p f a = perR p f (a % (p : Int)).toNat := by
 obtain ⟨hp, hf, hm, hlt⟩ := q5s h
 have hp2 := (q3a hp).1
 have m1 := Int.emod_nonneg a (show (p : Int) ≠ 0 by omega)
 have m2 := Int.emod_lt_of_pos a (show 0 < (p : Int) by omega)
 obtain ⟨r, hr⟩ : ∃ r : Nat, (r : Int) = a % (p : Int) := ⟨(a % (p : Int)).toNat, by omega⟩
 rw [perL_mod, ← hr, Int.toNat_natCast]
 have := List.all_eq_true.1 (perC9 hp) f (List.mem_range.2 hlt)
 rw [decide_eq_true hf, decide_eq_true hm] at this
 simp only [Bool.and_self, Bool.not_true, Bool.false_or] at this
 exact of_decide_eq_true (List.all_eq_true.1 this r (List.mem_range.2 (by omega)))
end Gx
end
section
/- The reference's list of periods. -/
set_option autoImplicit false
namespace Gx
open Go Go.Proofs
open Go.Proofs.Tryz (prog)
set_option maxRecDepth 10000
theorem r48_Periods {p f : Nat} (hc : pCkB (p : Int) (f : Int) = 0) (H : Heap) : q0m 38 [.int .i64 (p : Int), .int .i64 (f : Int)] H (fun v H' => MV H' v (q0f p f)) := by
 obtain ⟨hp, hf0, hm, hlt⟩ := q5s hc
 obtain ⟨hp2, hp23⟩ := q3a hp
 refine q1n (by decide) Tryz.func38 rfl ?_
 intro lk hlk
 have kp := fun lk H => r4_PR hp lk H
 simp -dsimp only [go_sem, kp]
 obtain ⟨n, hn⟩ : ∃ n, n = (p - 1) / f := ⟨_, rfl⟩
 have hnl : n ≤ 23 := by rw [hn]; exact Nat.le_trans (Nat.div_le_self _ _) (by omega)
 have w1 : IntKind.i64.wrap ((p : Int) - 1) = ((p - 1 : Nat) : Int) := by rw [w64 (by omega) (by omega)]; omega
 have w2 : IntKind.i64.wrap (((p - 1 : Nat) : Int).tdiv (f : Int)) = (n : Int) := by
  have : ((p - 1 : Nat) : Int).tdiv (f : Int) = (((p - 1) / f : Nat) : Int) := rfl
  rw [this, ← hn, w64 (by omega) (by omega)]
 have hf0' : ((f : Int) ≠ 0) = True := eq_true (by omega)
 have hp0' : ((p : Int) ≠ 0) = True := eq_true (by omega)
 obtain ⟨X, hX⟩ : ∃ X : Nat → Int, X = fun i => pwx (prt p) (p : Int) i 1 := ⟨_, rfl⟩
 have hXs : ∀ i, X (i + 1) = (IntKind.i64.wrap (X i * prt p)).tmod (p : Int) := fun i => by subst hX; show pwx (prt p) (p : Int) (i + 1) 1 = _; rw [pwx_succ]; unfold pwn Go.RowKit.wrap64; rw [IntKind.wrap_i64]
 obtain ⟨L, hL⟩ : ∃ L : Nat → List (List Rat), L = fun i => (pw (prt p) (p : Int) i 1).map (perL p f) := ⟨_, rfl⟩
 have hLs : ∀ i, L (i + 1) = L i ++ [perL p f (X i)] := fun i => by rw [hL, hX]; show List.map _ _ = _; rw [pw_snoc, List.map_append]; rfl
 have hLl : ∀ i, (L i).length = i := fun i => by rw [hL]; show (List.map _ _).length = i; rw [List.length_map, pw_len2]
 have hLn : q0f p f = L n := by rw [hL, hn]; rfl
 have hL0 : L 0 = [] := by rw [hL]; rfl
 have hX0 : X 0 = 1 := by rw [hX]; rfl
 rw [hLn]
 refine q2g (m := fun (s : Nat × Option Addr × List Sx × Value) => n - s.1) (I := fun s σ H' => s.1 ≤ n ∧ Ext H H' ∧ MGrow H.length H' s.2.2.2 (L s.1) s.2.1 s.2.2.1 ∧ σ 0 = .int .i64 (p : Int) ∧ σ 1 = .int .i64 (f : Int) ∧ σ 5 = s.2.2.2 ∧ σ 6 = .int .i64 (prt p) ∧ σ 8 = .int .i64 (X s.1) ∧ σ 9 = .int .i64 (s.1 : Int)) (0, none, [], .slice none 0 0) ⟨Nat.zero_le _, Ext.refl _, by rw [hL0]; exact MGrow.nil, rfl, rfl, rfl, rfl, by rw [hX0]; rfl, rfl⟩ ?_
 rintro ⟨i, a, xs, vo⟩ σ H' ⟨h1, hE, hG, s0, s1, s5, s6, s8, s9⟩
 simp only at h1 hG s5 s8 s9
 have hlo := hE.le
 by_cases hi : i < n
 ·have f1 := ltI hi
  have e7 := q1m hi (by omega)
  simp -dsimp only [go_sem, s0, s1, s5, s6, s8, s9, w1, w2, hf0', f1]
  refine ob_y (r48_Period hp (by omega) (X i) H') (by omega) ?_
  rintro v2 H2 hE2 hv2
  rw [← perLR hc] at hv2
  obtain ⟨c, rfl, hs⟩ := hv2
  have hl2 := hE2.le
  have hG2 := hG.ext hE2
  obtain ⟨hG3, hE6⟩ := hG2.app (hE.trans hE2) hs
  have hvo := hG.v
  have hxl := hG.rows.1
  rw [hLl] at hxl hvo hG3
  rw [← hLs] at hG3
  have hap := w3g (lk := lk) (t := 62) (t2 := 62) q5n q5n.e hG2.own (by omega) hxl.symm (by omega) ⟨c, (perL p f (X i)).length⟩
  simp -dsimp only [go_sem, s0, s1, s5, s6, s8, s9, hp0', reps, hvo, hap, e7]
  exact next (i + 1, _, _, _) (by show n - (i + 1) < n - i; omega) ⟨hi, hE6, hG3, s0, s1, rfl, s6, by rw [hXs]; rfl, rfl⟩
 ·have hi' : i = n := by omega
  subst hi'
  have f1 := nltI i
  simp -dsimp only [go_sem, s0, s1, s5, s6, s8, s9, w1, w2, hf0', f1]
  exact ⟨hE, hG.mv⟩
theorem icall_yes {P : Program} {md : Md} {lk : Nat} {g : FuncId} {fn : Func} {body : Code} {args : List Value} {H : Heap} (hg : P.funcs[g]? = some fn) (hb : fn.body = some body) (h : Runs P md lk body (q4j args) H (Ends P fn fun u _ => u = .bool true)) : ∃ n H', q1k P md n lk g args H = some (.bool true, H') := by
 obtain ⟨n, v, H', h1, h2⟩ := q7e hg hb h
 exact ⟨n, H', by rw [h1, h2]⟩
theorem perL_len (p f : Nat) (a : Int) : (perL p f a).length ≤ p - 1 := by
 unfold perL
 rw [List.length_take, q3h]; omega
theorem q5q (p f : Nat) : (q0f p f).length = (p - 1) / f := by unfold q0f; rw [List.length_map, pw_len2]
theorem persL_mem {p f : Nat} {r : List Rat} (h : r ∈ q0f p f) : r.length ≤ p - 1 := by
 unfold q0f at h
 obtain ⟨y, _, rfl⟩ := List.mem_map.1 h
 exact perL_len p f y
def sumL (p : Nat) (T : Nat → Int) : List Rat := trm (difL T (T (p - 1)) (p - 1))
theorem gsL_sum (p : Nat) : gsL p = sumL p (legT p) := by unfold gsL sumL trm; rw [q3h]
theorem q8y (p f : Nat) (a : Int) : perL p f a = sumL p (perT p f a) := by unfold perL sumL trm; rw [q3h]
theorem qf_sum (p : Nat) (T : Nat → Int) (k : Nat) : qf (sumL p T) k = Ec p (fun k => ((T k : Int) : Rat)) k := by
 unfold sumL Ec
 rw [q6p]
 by_cases h : k < p - 1
 ·rw [if_pos h, q1y (by rw [q3h]; exact h)]
  simp only [difL, List.getElem_map, List.getElem_range]
  exact Rat.intCast_sub _ _
 ·rw [if_neg h, q2a (by rw [q3h]; omega)]
theorem sumL_len (p : Nat) (T : Nat → Int) : (sumL p T).length ≤ p - 1 := by
 have := q7j (difL T (T (p - 1)) (p - 1))
 rw [q3h] at this
 exact this
theorem sumL_nrm (p : Nat) (T : Nat → Int) : Nrm (sumL p T) := q6g _
theorem w4b {p : Nat} {T : Nat → Int} (hp : 2 ≤ p) (hT : ∀ k, k < p → -1000 ≤ T k ∧ T k ≤ 1000) : IntL 2000 (sumL p T) := fun k => by
 unfold sumL
 rw [q6p]
 by_cases h : k < p - 1
 ·rw [q1y (by rw [q3h]; exact h)]
  simp only [difL, List.getElem_map, List.getElem_range]
  have h1 := hT k (by omega)
  have h2 := hT (p - 1) (by omega)
  exact .of (by omega)
 ·rw [q2a (by rw [q3h]; omega)]; exact .zero
theorem sumL_elm {p : Nat} {T : Nat → Int} (hp : 2 ≤ p) (hT : ∀ k, k < p → -1000 ≤ T k ∧ T k ≤ 1000) : Elm p (sumL p T) := ⟨sumL_nrm _ _, sumL_len _ _, (w4b hp hT).mono (by decide)⟩
theorem gs_elm {p : Nat} (hp : p ∈ P9) : Elm p (gsL p) := by rw [gsL_sum]; exact sumL_elm (q3a hp).1 fun k _ => legT_le p k
theorem perT_le (p f : Nat) (a : Int) (k : Nat) : -1000 ≤ perT p f a k ∧ perT p f a k ≤ 1000 := by
 have := cntP_le (p : Int) f (a % (p : Int)) (k : Int) 24
 unfold perT; omega
theorem per_elm {p : Nat} (hp : p ∈ P9) (f : Nat) (a : Int) : Elm p (perL p f a) := by rw [q8y]; exact sumL_elm (q3a hp).1 fun k _ => perT_le p f a k
def colE (L : List (List Rat)) : Nat → Nat → Rat := fun i j => qf (rw' L j) i
theorem r48_columns {H : Heap} {p : Nat} {v : Value} {L : List (List Rat)} (hp : p ∈ P9) (hv : MV H v L) (h0 : 0 < L.length) (hL : L.length ≤ 1000) (hr : ∀ i, i < L.length → (rw' L i).length ≤ 1000) :
  q0m 73 [.int .i64 (p : Int), v] H (fun v H' => MV H' v (mx (p - 1) L.length (colE L))) := by
 obtain ⟨hp2, hp23⟩ := q3a hp
 refine q1n (by decide) Tryz.func73 rfl ?_
 intro lk hlk
 obtain ⟨av, rfl⟩ := hv.is
 simp -dsimp only [go_sem]
 refine ob_y (q7z hp H) hlk ?_
 rintro vF H1 hE1 ⟨fa, rfl, hF⟩
 have l1 := hE1.le
 simp -dsimp only [go_sem]
 obtain ⟨H2, hH2⟩ : ∃ H2, H2 = H1 ++ [⟨[.slice fa (phiP p).length (phiP p).length], 1, false⟩] := ⟨_, rfl⟩
 have hE2 : Ext H1 H2 := by rw [hH2]; exact Ext.app _ _
 have l2 := hE2.le
 have hb : q0e H2 H1.length = some ⟨[.slice fa (phiP p).length (phiP p).length], 1, false⟩ := by rw [hH2]; exact q0j _ _
 refine ⟨by omega, ?_⟩
 rw [← hH2]
 obtain ⟨n, hn⟩ : ∃ n, n = p - 1 := ⟨_, rfl⟩
 have hmn : (phiP p).length - 1 = n := by rw [q1q, hn]
 refine q2g (m := fun (i : Nat) => L.length - i) (I := fun i σ H' => i ≤ L.length ∧ Ext H2 H' ∧ (∃ vo oa ox, MGrow H2.length H' vo (mx i n (fun a b => colE L b a)) oa ox ∧ σ 6 = vo) ∧ σ 1 = .slice av L.length L.length ∧ σ 5 = .pointer (some ⟨H1.length, 0, none⟩) ∧ σ 7 = .int .i64 (i : Int)) 0 ⟨Nat.zero_le _, Ext.refl _, ⟨_, none, [], MGrow.nil, rfl⟩, rfl, rfl, rfl⟩ ?_
 rintro i σ H' ⟨h1, hE, ⟨vo, oa, ox, hG, s6⟩, s1, s5, s7⟩
 have lo := hE.le
 have hb' := hE.live hb
 by_cases hi : i < L.length
 ·have f1 := ltI hi
  have e7 := q1m hi (by omega)
  have hE12 := hE1.trans (hE2.trans hE)
  obtain ⟨p1, d1, x1, x2, x3⟩ := hv.ix q5n i hi
  replace x2 := x2 H' hE12
  rw [← q1o hi] at x2 x3
  have hri := hr i hi
  simp -dsimp only [go_sem, s1, s5, s6, s7, f1, hb', x1, x2]
  refine ob_y (r30_Row (f := rw' L i) ⟨fa, rfl, (hE2.trans hE).sl hF⟩ ⟨d1, rfl, hE12.sl x3⟩ (q5p (by omega)) (by rw [q1q]; omega) (by omega)) (Nat.le_refl _) ?_
  rintro v3 H3 hE3 ⟨e3, rfl, hO3⟩
  rw [hmn] at hO3 ⊢
  have hpl : (pRow n (rw' L i)).length = n := q0d _ _
  rw [hpl]
  have l3 := hE3.le
  have hG2 := hG.ext hE3
  obtain ⟨hG3, hE4⟩ := hG2.app (hE.trans hE3) hO3.sl
  rw [hpl, q1v] at hG3
  rw [hpl] at hE4
  have hms := mx_succ i n (fun a b => colE L b a)
  rw [show mapR ((fun a b => colE L b a) i) n = pRow n (rw' L i) from rfl] at hms
  rw [← hms] at hG3
  have hxl := hG.rows.1
  have hvo := hG.v
  rw [q1v] at hxl hvo
  have hap := w3g (lk := lk) (t := 28) (t2 := 28) q2c q2c.e hG2.own (by omega) hxl.symm (by omega) ⟨e3, n⟩
  simp -dsimp only [go_sem, s1, s5, s6, s7, hvo, reps, hap, e7]
  exact next (i + 1) (by show L.length - (i + 1) < L.length - i; omega) ⟨hi, hE4, ⟨_, _, _, hG3, rfl⟩, s1, s5, rfl⟩
 ·have hi' : i = L.length := by omega
  subst hi'
  have f1 := nltI L.length
  simp -dsimp only [go_sem, s1, s5, s6, s7, f1]
  refine ob_y (w3j hG.mv h0 (by omega) (by omega)) (by omega) ?_
  rintro v4 H4 hE4 hM
  simp -dsimp only [go_sem]
  rw [hn] at hM
  exact ⟨hE1.trans (hE2.trans (hE.trans hE4)), hM.mv⟩
theorem wide_ex (n : Nat) (L : List (List Rat)) (x : List Rat) : w0y (mx n L.length (colE L)) (pRow n x) (mx n L.length (colE L)).length = exM n L x := by
 rw [q1v]
 refine q9i (by rw [q4r, q6i]) fun i hi => ?_
 rw [q4r] at hi
 rw [q1o (by rw [q4r]; exact hi), q1o (by rw [q6i]; exact hi)]
 simp only [w0y, exM, List.getElem_map, List.getElem_range, w4a]
 rw [q1o (by rw [q1v]; exact hi), mx_row]
 congr 1
 ·refine List.ext_getElem (by rw [q0d, List.length_map]) fun j h1 h2 => ?_
  rw [q0d] at h1
  rw [q1u, List.getElem_map]
  show qf (rw' L j) i = _
  rw [q1o h1]
 ·unfold pRow
  rw [q5b, if_pos hi]
def refCo (p f : Nat) (x : List Rat) : Option (List Rat) := solveL (mx (p - 1) (q0f p f).length (colE (q0f p f))) (pRow (p - 1) x) (q0f p f).length
theorem r48_Coordinates {p f : Nat} (hc : pCkB (p : Int) (f : Int) = 0) {H : Heap} {v : Value} {x : List Rat} (hv : LV H v x) (lx : x.length ≤ 1000) (ok : EcOk (exM (p - 1) (q0f p f) x) ((q0f p f).length + 1)) :
  q0m 24 [.int .i64 (p : Int), .int .i64 (f : Int), v] H (fun r H' => match refCo p f x with
   | none => r = .tuple #[.slice none 0 0, .bool false]
   | some y => ∃ w, r = .tuple #[w, .bool true] ∧ LV H' w y) := by
 obtain ⟨hp, hf0, hfm, hfp⟩ := q5s hc
 obtain ⟨hp2, hp23⟩ := q3a hp
 have hps := q5q p f
 have hpd : (p - 1) / f ≤ p - 1 := Nat.div_le_self _ _
 have hpos : 1 ≤ (p - 1) / f := Nat.div_pos (by omega) (by omega)
 refine q1n (by decide) Tryz.func24 rfl ?_
 intro lk hlk
 simp -dsimp only [go_sem]
 refine ob_y (r48_Periods hc H) hlk ?_
 rintro v1 H1 hE1 hP
 have l1 := hE1.le
 simp -dsimp only [go_sem]
 refine ob_y (r48_columns hp hP (by omega) (by omega) (fun i hi => by
  rw [q1o hi]
  have := persL_mem (List.getElem_mem hi)
  omega)) (by omega) ?_
 rintro v2 H2 hE2 hM
 have l2 := hE2.le
 simp -dsimp only [go_sem]
 refine ob_y (q7z hp H2) (by omega) ?_
 rintro vF H3 hE3 hF
 have l3 := hE3.le
 simp -dsimp only [go_sem]
 refine ob_y (r30_Row hF (hv.ext (hE1.trans (hE2.trans hE3))) (q5p (by omega)) (by rw [q1q]; omega) (by omega)) (by omega) ?_
 rintro v4 H4 hE4 hR
 have l4 := hE4.le
 simp -dsimp only [go_sem]
 have hwx := wide_ex (p - 1) (q0f p f) x
 rw [q1q] at hR
 have hrect : Rect (mx (p - 1) (q0f p f).length (colE (q0f p f))) (q0f p f).length := fun i hi => by
  rw [q1o hi, q4u]
 refine ob_y (r5_Solve (hM.ext (hE3.trans hE4)) hR.lv hrect (by rw [← List.length_pos_iff, q1v]; omega) (by omega) (by rw [q1v]; exact q0d _ _) (by omega) (by rw [q1v]; omega) (by rw [hwx]; exact ok)) (by omega) ?_
 rintro v5 H5 hE5 hs
 rw [show solveL (mx (p - 1) (q0f p f).length (colE (q0f p f))) (pRow (p - 1) x) (q0f p f).length = refCo p f x from rfl] at hs
 have hE := hE1.trans (hE2.trans (hE3.trans (hE4.trans hE5)))
 cases hr : refCo p f x with
 | none =>
  rw [hr] at hs
  simp only at hs
  subst hs
  simp -dsimp only [go_sem]
  exact hE
 | some y =>
  rw [hr] at hs
  obtain ⟨w, rfl, hw⟩ := hs
  simp -dsimp only [go_sem]
  exact ⟨hE, w, rfl, hw⟩
def refTR (p f i : Nat) : List Rat := (refCo p f (pMulM (phiP p) (rw' (q0f p f) 0) (rw' (q0f p f) i))).getD []
def w1i (p f n : Nat) : List (List Rat) := (List.range n).map (refTR p f)
theorem refTab_succ (p f n : Nat) : w1i p f (n + 1) = w1i p f n ++ [refTR p f n] := by simp [w1i, List.range_succ]
theorem refTab_len (p f n : Nat) : (w1i p f n).length = n := by simp [w1i]
structure RTabOk (p f : Nat) : Prop where
 m : ∀ i, i < (q0f p f).length → MulModOk (phiP p) (rw' (q0f p f) 0) (rw' (q0f p f) i)
 e : ∀ i, i < (q0f p f).length → EcOk (exM (p - 1) (q0f p f) (pMulM (phiP p) (rw' (q0f p f) 0) (rw' (q0f p f) i))) ((q0f p f).length + 1)
 l : ∀ i, i < (q0f p f).length → (refTR p f i).length ≤ 1000
theorem r48_Table {p f : Nat} (hc : pCkB (p : Int) (f : Int) = 0) (ok : RTabOk p f) (H : Heap) :
  q0m 19 [.int .i64 (p : Int), .int .i64 (f : Int)] H (fun v H' => MV H' v (w1i p f (q0f p f).length)) := by
 obtain ⟨hp, hf0, hfm, hfp⟩ := q5s hc
 obtain ⟨hp2, hp23⟩ := q3a hp
 have hps := q5q p f
 have hpd : (p - 1) / f ≤ p - 1 := Nat.div_le_self _ _
 have hpos : 1 ≤ (p - 1) / f := Nat.div_pos (by omega) (by omega)
 have hrl : ∀ i, i < (q0f p f).length → (rw' (q0f p f) i).length ≤ 1000 := fun i hi => by
  rw [q1o hi]
  have := persL_mem (List.getElem_mem hi)
  omega
 have hco := fun H (v : Value) x (hv : LV H v x) lx ok => r48_Coordinates hc hv (x := x) lx ok
 obtain ⟨om, oe, ol⟩ := ok
 obtain ⟨L, hL⟩ : ∃ L, L = q0f p f := ⟨_, rfl⟩
 have htr : ∀ i, refTR p f i = (refCo p f (pMulM (phiP p) (rw' L 0) (rw' L i))).getD [] := fun i => by rw [hL]; rfl
 refine q1n (by decide) Tryz.func19 rfl ?_
 intro lk hlk
 simp -dsimp only [go_sem]
 refine ob_y (r48_Periods hc H) hlk ?_
 rintro v1 H1 hE1 hP
 have l1 := hE1.le
 obtain ⟨av, rfl⟩ := hP.is
 rw [← hL] at hP hrl om oe ol hps hco ⊢
 simp -dsimp only [go_sem]
 refine ob_y (q7z hp H1) (by omega) ?_
 rintro vF H2 hE2 ⟨fa, rfl, hF⟩
 have l2 := hE2.le
 simp -dsimp only [go_sem]
 obtain ⟨H3, hH3⟩ : ∃ H3, H3 = H2 ++ [⟨[.slice fa (phiP p).length (phiP p).length], 1, false⟩] := ⟨_, rfl⟩
 have hE3 : Ext H2 H3 := by rw [hH3]; exact Ext.app _ _
 have l3 := hE3.le
 have hb : q0e H3 H2.length = some ⟨[.slice fa (phiP p).length (phiP p).length], 1, false⟩ := by rw [hH3]; exact q0j _ _
 refine ⟨by omega, ?_⟩
 rw [← hH3]
 refine q2g (m := fun (i : Nat) => L.length - i) (I := fun i σ H' => i ≤ L.length ∧ Ext H3 H' ∧ (∃ vo oa ox, MGrow H3.length H' vo (w1i p f i) oa ox ∧ σ 7 = vo) ∧ σ 0 = .int .i64 (p : Int) ∧ σ 1 = .int .i64 (f : Int) ∧ σ 5 = .slice av L.length L.length ∧ σ 6 = .pointer (some ⟨H2.length, 0, none⟩) ∧ σ 8 = .int .i64 (i : Int)) 0 ⟨Nat.zero_le _, Ext.refl _, ⟨_, none, [], MGrow.nil, rfl⟩, rfl, rfl, rfl, rfl, rfl⟩ ?_
 rintro i σ H' ⟨h1, hE, ⟨vo, oa, ox, hG, s7⟩, s0, s1, s5, s6, s8⟩
 have lo := hE.le
 have hb' := hE.live hb
 by_cases hi : i < L.length
 ·have f1 := ltI hi
  have e7 := q1m hi (by omega)
  have hE23 := hE2.trans (hE3.trans hE)
  obtain ⟨p1, d1, x1, x2, x3⟩ := hP.ix q5n 0 (by omega)
  obtain ⟨p2, d2, y1, y2, y3⟩ := hP.ix q5n i hi
  replace x2 := x2 H' hE23
  replace y2 := y2 H' hE23
  rw [← q1o (show 0 < L.length by omega)] at x2 x3
  rw [← q1o hi] at y2 y3
  have x1 : q0i prog 62 (.slice av L.length L.length) (.int .i64 0) = some p1 := x1
  have hr0 := hrl 0 (by omega)
  have hri := hrl i hi
  simp -dsimp only [go_sem, s0, s1, s5, s6, s7, s8, f1, hb', x1, x2, y1, y2]
  refine ob_y (r30_Mul ⟨fa, rfl, (hE3.trans hE).sl hF⟩ ⟨d1, rfl, hE23.sl x3⟩ ⟨d2, rfl, hE23.sl y3⟩ (q5p (by omega)) (q3u p) (om i hi) (by rw [q1q]; omega) (by omega) (by omega)) (Nat.le_refl _) ?_
  rintro v4 H4 hE4 hO4
  have l4 := hE4.le
  have hml := (q4n (f := pMul (rw' L 0) (rw' L i)) (q5p (p := p) (by omega)) (q3u p)).1
  rw [q1q] at hml
  simp -dsimp only [go_sem, s0, s1]
  refine ob_y (hco H4 v4 _ hO4.lv (by unfold pMulM; omega) (oe i hi)) (Nat.le_refl _) ?_
  rintro v5 H5 hE5 hs
  have l5 := hE5.le
  have hres : ∃ w b, v5 = .tuple #[w, .bool b] ∧ LV H5 w (refTR p f i) := by
   rw [htr]
   cases hr : refCo p f (pMulM (phiP p) (rw' L 0) (rw' L i)) with
   | none =>
    rw [hr] at hs
    simp only at hs
    exact ⟨_, _, hs, LV.nil⟩
   | some y =>
    rw [hr] at hs
    obtain ⟨w, hw1, hw2⟩ := hs
    exact ⟨w, _, hw1, hw2⟩
  obtain ⟨w, bb, rfl, e5, rfl, hs5⟩ := hres
  have hli := ol i hi
  have hG2 := hG.ext (hE4.trans hE5)
  obtain ⟨hG3, hE6⟩ := hG2.app (hE.trans (hE4.trans hE5)) hs5
  rw [← refTab_succ, refTab_len] at hG3
  have hxl := hG.rows.1
  have hvo := hG.v
  rw [refTab_len] at hxl hvo
  have hap := w3g (lk := lk) (t := 28) (t2 := 28) q2c q2c.e hG2.own (by omega) hxl.symm (by omega) ⟨e5, (refTR p f i).length⟩
  simp -dsimp only [go_sem, s0, s1, s5, s6, s7, s8, hvo, reps, hap, e7]
  exact next (i + 1) (by show L.length - (i + 1) < L.length - i; omega) ⟨hi, hE6, ⟨_, _, _, hG3, rfl⟩, s0, s1, s5, s6, rfl⟩
 ·have hi' : i = L.length := by omega
  subst hi'
  have f1 := nltI L.length
  simp -dsimp only [go_sem, s0, s1, s5, s6, s7, s8, f1]
  exact ⟨hE1.trans (hE2.trans (hE3.trans hE)), hG.mv⟩
def refCh (p f : Nat) : List Rat := flL (matE (phiP p) (perR p f 1)) (p - 1) (p - 1)
def refPoly (p f : Nat) : List Rat := pRad (refCh p f)
structure RPolOk (p f : Nat) : Prop where
 m : MatOk (phiP p) (perR p f 1)
 c : FlOk (matE (phiP p) (perR p f 1)) (p - 1)
 n : Nrm (refCh p f)
 z : refCh p f ≠ []
 l : (refCh p f).length ≤ 1000
 r : RadOk (refCh p f)
 pl : (perR p f 1).length ≤ 1000
theorem r48_Poly {p f : Nat} (hp : p ∈ P9) (hf : f ≤ 9223372036854775807) (ok : RPolOk p f) (H : Heap) :
  q0m 17 [.int .i64 (p : Int), .int .i64 (f : Int)] H (fun v H' => LV H' v (refPoly p f)) := by
 obtain ⟨hp2, hp23⟩ := q3a hp
 have hpl := q1q p
 refine q1n (by decide) Tryz.func17 rfl ?_
 intro lk hlk
 simp -dsimp only [go_sem]
 refine ob_y (q7z hp H) hlk ?_
 rintro vF H1 hE1 hF
 have l1 := hE1.le
 simp -dsimp only [go_sem]
 refine ob_y (r48_Period (f := f) hp hf 1 H1) (by omega) ?_
 rintro v2 H2 hE2 hv2
 have l2 := hE2.le
 have e1 : ((1 : Int) % (p : Int)).toNat = 1 := by rw [Int.emod_eq_of_lt (by omega) (by omega)]; rfl
 rw [e1] at hv2
 simp -dsimp only [go_sem]
 have okc := ok.c
 rw [show p - 1 = (phiP p).length - 1 by rw [hpl]] at okc
 refine ob_y (r30_CharPoly (hF.ext hE2) hv2 (by omega) (q3u p) (by omega) (by have := ok.pl; omega) ok.m okc) (by omega) ?_
 rintro v3 H3 hE3 hO3
 have l3 := hE3.le
 rw [hpl, show flL (matE (phiP p) (perR p f 1)) (p - 1) (p - 1) = refCh p f from rfl] at hO3
 simp -dsimp only [go_sem]
 refine ob_y (r6_Radical hO3.lv ok.z ok.n ok.r (by have := ok.l; omega)) (by omega) ?_
 rintro v4 H4 hE4 hO4
 simp -dsimp only [go_sem]
 exact ⟨hE1.trans (hE2.trans (hE3.trans hE4)), hO4.lv⟩
theorem w0j (r : List Rat) (c : Rat) (j : Nat) : qf (scl r c) j = qf r j * c := by
 unfold scl sclU
 rw [q5b]
 by_cases h : j < r.length
 ·rw [if_pos h, if_pos h]
 ·rw [if_neg h, q2a (by omega)]; exact (Rat.zero_mul _).symm
theorem qf_elmr (r p : List Rat) (d : Rat) (j : Nat) (h : p.length ≤ r.length) : qf (elm r p d) j = qf r j - d * qf p j := by
 unfold elm elU
 rw [q5b]
 by_cases hj : j < r.length
 ·rw [if_pos hj, if_pos hj]
 ·rw [if_neg hj, q2a (f := r) (by omega), q2a (f := p) (by omega)]; grind
section
variable {w : Nat} {v : Nat → Rat} {M N : List (List Rat)}
end
theorem exM_row (n : Nat) (L : List (List Rat)) (b : List Rat) (i : Nat) (hi : i < n) : rw' (exM n L b) i = w4a L b i := by
 rw [q1o (by rw [q6i]; exact hi)]; simp [exM]
theorem exRow_w (L : List (List Rat)) (b : List Rat) (i : Nat) : qf (w4a L b i) L.length = qf b i := by
 rw [q1y (by rw [exRow_len]; omega)]
 unfold w4a
 rw [List.getElem_append_right (by rw [List.length_map]; exact Nat.le_refl _)]
 simp
theorem exL_get (A : List (List Rat)) (w : Nat) (v : Nat → Rat) (hA : ∀ i, i < w → qf (rw' A i) w = v i) : ∀ i, i ≤ w → exL A (List.range w) w i = mapR (fun j => if j < i then v j else 0) w
 | 0, _ => by
  refine List.ext_getElem (by rw [q0d, q8g]) fun l l1 l2 => ?_
  rw [q1u]; simp [exL]
 | i + 1, h => by
  rw [exL, exL_get A w v hA i (by omega), q9d, hA i (by omega)]
  refine q1w fun j hj => ?_
  have : (List.range w).getD i 0 = i := by
   rw [List.getD_eq_getElem?_getD, List.getElem?_range (by omega)]; rfl
  rw [this]
  by_cases hji : j = i
  ·rw [if_pos hji, if_pos (by omega), hji]
  ·rw [if_neg hji]
   by_cases h3 : j < i
   ·rw [if_pos h3, if_pos (by omega)]
   ·rw [if_neg h3, if_neg (by omega)]
structure LinR (w m : Nat) (x : Nat → Rat) (r s : List Rat) : Prop where
 l1 : r.length = w + 1
 l2 : s.length = w + m
 ag : ∀ j, j < w → qf r j = qf s j
 cb : qf r w = A.sm (fun j => x j * qf s (w + j)) m
section
variable {w m : Nat} {x : Nat → Rat} {r s p q : List Rat}
theorem scl_len (r : List Rat) (c : Rat) : (scl r c).length = r.length := by unfold scl; rw [w1f]
theorem elm_len (r p : List Rat) (d : Rat) : (elm r p d).length = r.length := by unfold elm; rw [elU_len]
theorem LinR.scl (h : LinR w m x r s) (c : Rat) : LinR w m x (scl r c) (scl s c) := by
 refine ⟨by rw [scl_len]; exact h.l1, by rw [scl_len]; exact h.l2, fun j hj => by rw [w0j, w0j, h.ag j hj], ?_⟩
 rw [w0j, h.cb, ← A.sm_mulr]
 exact A.sm_congr fun j _ => by rw [w0j]; grind
theorem LinR.elm (h : LinR w m x r s) (g : LinR w m x p q) (d : Rat) : LinR w m x (elm r p d) (elm s q d) := by
 have e1 := fun j => qf_elmr r p d j (by rw [g.l1, h.l1]; exact Nat.le_refl _)
 have e2 := fun j => qf_elmr s q d j (by rw [g.l2, h.l2]; exact Nat.le_refl _)
 refine ⟨by rw [elm_len]; exact h.l1, by rw [elm_len]; exact h.l2, fun j hj => by rw [e1, e2, h.ag j hj, g.ag j hj], ?_⟩
 rw [e1, h.cb, g.cb, ← A.sm_mul, ← A.sm_sub]
 exact A.sm_congr fun j _ => by rw [e2]; grind
theorem LinR.wo (h : LinR w m x r s) (g : LinR w m x p q) {k : Nat} (hk : k < w) : LinR w m x (wo r p k) (wo s q k) := by
 unfold Gx.wo
 rw [h.ag k hk]
 split
 ·exact h
 ·exact h.elm g _
end
structure Lin (w m : Nat) (x : Nat → Rat) (M N : List (List Rat)) : Prop where
 len : M.length = N.length
 row : ∀ i, i < M.length → LinR w m x (rw' M i) (rw' N i)
section
variable {w m : Nat} {x : Nat → Rat} {M N : List (List Rat)}
theorem Lin.nil : Lin w m x [] [] := ⟨rfl, fun i h => by simp at h⟩
theorem Lin.swap (h : Lin w m x M N) (i j : Nat) (hi : i < M.length) (hj : j < M.length) : Lin w m x (q3r M i j []) (q3r N i j []) := by
 have hl := h.len
 refine ⟨by rw [q1e, q1e]; exact h.len, fun k hk => ?_⟩
 rw [q1e] at hk
 rw [q6x hi hj k hk, q6x (by omega) (by omega) k (by omega)]
 exact h.row _ (q7r hi hj hk)
theorem Lin.set (h : Lin w m x M N) (i : Nat) (hi : i < M.length) {r s : List Rat} (hr : LinR w m x r s) : Lin w m x (M.set i r) (N.set i s) := by
 have hl := h.len
 refine ⟨by simp [hl], fun k hk => ?_⟩
 rw [List.length_set] at hk
 rw [q5y _ _ _ _ hi, q5y _ _ _ _ (by omega)]
 split
 ·exact hr
 ·exact h.row k hk
theorem Lin.rdM (h : Lin w m x M N) (top i k : Nat) (ht : top < M.length) (hi : i < M.length) (hk : k < w) : Lin w m x (rdM M top i k) (rdM N top i k) := by
 have hs := h.swap top i ht hi
 have ht' : top < (q3r M top i []).length := by rw [q1e]; exact ht
 unfold Gx.rdM
 rw [(hs.row top ht').ag k hk]
 exact hs.set top ht' ((hs.row top ht').scl _)
theorem Lin.elR (h : Lin w m x M N) (top k : Nat) (ht : top < M.length) (hk : k < w) : Lin w m x (elR M top k M.length) (elR N top k N.length) := by
 have hl := h.len
 refine ⟨by rw [q2h, q2h]; exact hl, fun i hi => ?_⟩
 rw [q2h] at hi
 rw [q5e _ _ _ _ _ hi, q5e _ _ _ _ _ (by omega), (h.row i hi).ag k hk]
 by_cases hc : i < M.length ∧ i ≠ top ∧ qf (rw' N i) k ≠ 0
 ·rw [if_pos hc, if_pos ⟨by omega, hc.2.1, hc.2.2⟩]
  exact (h.row i hi).elm (h.row top ht) _
 ·rw [if_neg hc, if_neg (fun y => hc ⟨by omega, y.2.1, y.2.2⟩)]
  exact h.row i hi
theorem Lin.fnz (h : Lin w m x M N) (k : Nat) (hk : k < w) : ∀ n i, i + n ≤ M.length → fnz M k n i = fnz N k n i
 | 0, i, _ => rfl
 | n + 1, i, hn => by
  unfold Gx.fnz
  rw [(h.row i (by omega)).ag k hk, h.fnz k hk n (i + 1) (by omega)]
theorem Lin.map {l : List Nat} {f g : Nat → List Rat} (h : ∀ j ∈ l, LinR w m x (f j) (g j)) : Lin w m x (l.map f) (l.map g) := by
 refine ⟨by simp, fun i hi => ?_⟩
 rw [q1o hi, q1o (by simpa using hi)]
 simp only [List.getElem_map]
 exact h _ (List.getElem_mem _)
theorem Lin.app {M' N' : List (List Rat)} (h : Lin w m x M N) (h' : Lin w m x M' N') : Lin w m x (M ++ M') (N ++ N') := by
 have hl := h.len
 have hl' := h'.len
 refine ⟨by simp [hl, hl'], fun i hi => ?_⟩
 rw [List.length_append] at hi
 unfold rw'
 rw [List.getD_eq_getElem?_getD, List.getD_eq_getElem?_getD]
 by_cases h1 : i < M.length
 ·rw [List.getElem?_append_left h1, List.getElem?_append_left (by omega), ← List.getD_eq_getElem?_getD, ← List.getD_eq_getElem?_getD]
  exact h.row i h1
 ·rw [List.getElem?_append_right (by omega), List.getElem?_append_right (by omega), hl, ← List.getD_eq_getElem?_getD, ← List.getD_eq_getElem?_getD]
  exact h'.row _ (by omega)
theorem Lin.one {r s : List Rat} (h : LinR w m x r s) : Lin w m x [r] [s] := ⟨rfl, fun i hi => by
 have : i = 0 := by simp at hi; omega
 subst this
 exact h⟩
end
theorem Lin.steps {w m : Nat} {x : Nat → Rat} {M N : List (List Rat)} (h : Lin w m x M N) : ∀ k, k ≤ w → Lin w m x (rdS M k).1 (rdS N k).1 ∧ (rdS M k).2 = (rdS N k).2
 | 0, _ => ⟨h, rfl⟩
 | k + 1, hk => by
  obtain ⟨h1, h2⟩ := h.steps k (by omega)
  have hl := h1.len
  unfold Gx.rdS q5o
  rw [h2, ← hl]
  by_cases hc : (rdS N k).2.length < (rdS M k).1.length
  ·rw [if_pos hc, if_pos hc, h1.fnz k (by omega) _ _ (by omega)]
   have hf := q9s (rdS N k).1 k ((rdS M k).1.length - (rdS N k).2.length) (rdS N k).2.length
   by_cases he : Gx.fnz (rdS N k).1 k ((rdS M k).1.length - (rdS N k).2.length) (rdS N k).2.length = (rdS M k).1.length
   ·rw [if_pos he, if_pos he]; exact ⟨h1, h2⟩
   ·rw [if_neg he, if_neg he]
    have h3 := h1.rdM (rdS N k).2.length (Gx.fnz (rdS N k).1 k ((rdS M k).1.length - (rdS N k).2.length) (rdS N k).2.length) k hc (by omega) (by omega)
    have h4 := h3.elR (rdS N k).2.length k (by rw [w2j]; exact hc) (by omega)
    rw [w2j, w2j] at h4
    exact ⟨by rw [← hl] at h4; exact h4, rfl⟩
  ·rw [if_neg hc, if_neg hc]; exact ⟨h1, h2⟩
theorem Lin.piv {w m : Nat} {x : Nat → Rat} {R S : List (List Rat)} (h : Lin w m x R S) {i k : Nat} (hi : i < R.length) (hk : k < w) : LinR w m x (q8i R i k) (q8i S i k) := by
 unfold q8i
 rw [(h.row i hi).ag k hk]
 exact (h.row i hi).scl _
theorem Lin.ecS {w m : Nat} {x : Nat → Rat} {M N : List (List Rat)} (h : Lin w m x M N) : ∀ k, k ≤ w → Lin w m x (ecS M k).1 (ecS N k).1 ∧ Lin w m x (ecS M k).2.1 (ecS N k).2.1 ∧ (ecS M k).2.2 = (ecS N k).2.2
 | 0, _ => ⟨h, Lin.nil, rfl⟩
 | k + 1, hk => by
  obtain ⟨h1, h2, h3⟩ := h.ecS k (by omega)
  have hl := h1.len
  have hl2 := h2.len
  have hf := h1.fnz k (by omega) (Gx.ecS M k).1.length 0 (by omega)
  have hfl := (q9s (Gx.ecS M k).1 k (Gx.ecS M k).1.length 0).2
  unfold Gx.ecS q7l
  rw [← hl, ← hf]
  by_cases he : Gx.fnz (Gx.ecS M k).1 k (Gx.ecS M k).1.length 0 = (Gx.ecS M k).1.length
  ·rw [if_pos he, if_pos he]; exact ⟨h1, h2, h3⟩
  ·rw [if_neg he, if_neg he]
   have hp := h1.piv (i := Gx.fnz (Gx.ecS M k).1 k (Gx.ecS M k).1.length 0) (k := k) (by omega) (by omega)
   refine ⟨Lin.map fun j hj => ?_, Lin.app ?_ (Lin.one hp), by rw [h3]⟩
   ·have := List.mem_range.1 (List.mem_filter.1 hj).1
    exact (h1.row j this).wo hp (by omega)
   ·unfold dnL
    rw [← hl2]
    refine Lin.map fun j hj => ?_
    have := List.mem_range.1 hj
    rw [if_pos this, if_pos this]
    exact (h2.row j this).wo hp (by omega)
def satR (w : Nat) (v : Nat → Rat) (r : List Rat) : Prop := qf r w = A.sm (fun j => v j * qf r j) w
section
variable {w : Nat} {v : Nat → Rat} {r p : List Rat}
theorem satR_scl {c : Rat} (hc : c ≠ 0) : satR w v (scl r c) ↔ satR w v r := by
 unfold satR
 have e : A.sm (fun j => v j * qf (scl r c) j) w = A.sm (fun j => v j * qf r j) w * c := by
  rw [← A.sm_mulr]
  exact A.sm_congr fun j _ => by rw [w0j]; grind
 rw [e, w0j]
 constructor
 ·intro h
  have := congrArg (· * c⁻¹) h
  simp only [Rat.mul_assoc, Rat.mul_inv_cancel c hc, Rat.mul_one] at this
  exact this
 ·intro h; rw [h]
theorem satR_elm {d : Rat} (hp : satR w v p) (hl : p.length ≤ r.length) : satR w v (elm r p d) ↔ satR w v r := by
 unfold satR at *
 have e : A.sm (fun j => v j * qf (elm r p d) j) w = A.sm (fun j => v j * qf r j) w - d * A.sm (fun j => v j * qf p j) w := by
  rw [← A.sm_mul, ← A.sm_sub]
  exact A.sm_congr fun j _ => by rw [qf_elmr _ _ _ _ hl]; grind
 rw [e, qf_elmr _ _ _ _ hl, hp]
 constructor
 ·intro h
  grind
 ·intro h; rw [h]
theorem satR_wo (hp : satR w v p) (hl : p.length ≤ r.length) (k : Nat) : satR w v (wo r p k) ↔ satR w v r := by
 unfold wo
 split
 ·exact Iff.rfl
 ·exact satR_elm hp hl
end
def SatM (w : Nat) (v : Nat → Rat) (M : List (List Rat)) : Prop := ∀ i, i < M.length → satR w v (rw' M i)
section
variable {w : Nat} {v : Nat → Rat} {M : List (List Rat)}
theorem tau_tau (i j k : Nat) : tau i j (tau i j k) = k := by
 unfold tau
 split <;> split <;> (try split) <;> omega
theorem satM_swap {i j : Nat} (hi : i < M.length) (hj : j < M.length) : SatM w v (q3r M i j []) ↔ SatM w v M := by
 constructor
 ·intro h k hk
  have := h (tau i j k) (by rw [q1e]; exact q7r hi hj hk)
  rw [q6x hi hj _ (q7r hi hj hk), tau_tau] at this
  exact this
 ·intro h k hk
  rw [q1e] at hk
  rw [q6x hi hj _ hk]
  exact h _ (q7r hi hj hk)
theorem satM_set {i : Nat} (hi : i < M.length) {r : List Rat} (hr : satR w v r ↔ satR w v (rw' M i)) : SatM w v (M.set i r) ↔ SatM w v M := by
 constructor
 ·intro h k hk
  have := h k (by rw [List.length_set]; exact hk)
  rw [q5y _ _ _ _ hi] at this
  by_cases hki : k = i
  ·rw [if_pos hki] at this; rw [hki]; exact hr.1 this
  ·rw [if_neg hki] at this; exact this
 ·intro h k hk
  rw [List.length_set] at hk
  rw [q5y _ _ _ _ hi]
  split
  ·exact hr.2 (h i hi)
  ·exact h k hk
theorem inv_ne {d : Rat} (h : d ≠ 0) : d⁻¹ ≠ 0 := fun h0 => by
 have := Rat.mul_inv_cancel d h
 rw [h0, Rat.mul_zero] at this
 exact absurd this (by decide)
theorem satM_rdM {top i k : Nat} (ht : top < M.length) (hi : i < M.length) (hne : qf (rw' M i) k ≠ 0) : SatM w v (rdM M top i k) ↔ SatM w v M := by
 unfold rdM
 have e : rw' (q3r M top i []) top = rw' M i := by rw [q6x ht hi _ ht, tau_l]
 rw [satM_set (by rw [q1e]; exact ht) (satR_scl (by rw [e]; exact inv_ne hne)), satM_swap ht hi]
theorem satM_elR {c top k : Nat} (ht : top < M.length) (hR : Rect M c) : SatM w v (elR M top k M.length) ↔ SatM w v M := by
 have key : ∀ i, i < M.length → satR w v (rw' M top) → (satR w v (rw' (elR M top k M.length) i) ↔ satR w v (rw' M i)) := fun i hi h => by
  rw [q5e _ _ _ _ _ hi]
  split
  ·exact satR_elm h (by rw [hR _ ht, hR _ hi]; exact Nat.le_refl _)
  ·exact Iff.rfl
 have htop : rw' (elR M top k M.length) top = rw' M top := by rw [q5e _ _ _ _ _ ht, if_neg (fun x => x.2.1 rfl)]
 constructor
 ·intro h i hi
  have h1 := h top (by rw [q2h]; exact ht)
  rw [htop] at h1
  exact (key i hi h1).1 (h i (by rw [q2h]; exact hi))
 ·intro h i hi
  rw [q2h] at hi
  exact (key i hi (h top ht)).2 (h i hi)
end
theorem satM_rdS {w c : Nat} {v : Nat → Rat} {M : List (List Rat)} (hR : Rect M c) : ∀ k, SatM w v (rdS M k).1 ↔ SatM w v M
 | 0 => Iff.rfl
 | k + 1 => by
  have ih := satM_rdS (w := w) (v := v) hR k
  have hr := w4f hR k
  unfold rdS q5o
  split
  ·rename_i h1
   split
   ·exact ih
   ·rename_i h2
    have hf := q9s (rdS M k).1 k ((rdS M k).1.length - (rdS M k).2.length) (rdS M k).2.length
    have hh := fnz_hit (rdS M k).1 k ((rdS M k).1.length - (rdS M k).2.length) (rdS M k).2.length (by omega)
    have e := satM_elR (w := w) (v := v) (top := (rdS M k).2.length) (k := k) (by rw [w2j]; exact h1) (hr.rdM (rdS M k).2.length (fnz (rdS M k).1 k ((rdS M k).1.length - (rdS M k).2.length) (rdS M k).2.length) k h1 (by omega))
    rw [w2j] at e
    rw [e, satM_rdM h1 (by omega) hh, ih]
  ·exact ih
def SatL (w : Nat) (v : Nat → Rat) (M : List (List Rat)) : Prop := ∀ r ∈ M, satR w v r
theorem w4e {w : Nat} {v : Nat → Rat} {M : List (List Rat)} : SatL w v M ↔ SatM w v M := by
 constructor
 ·intro h i hi; rw [q1o hi]; exact h _ (List.getElem_mem hi)
 ·intro h r hr
  obtain ⟨i, hi, rfl⟩ := List.mem_iff_getElem.1 hr
  rw [← q1o hi]; exact h i hi
theorem satM_ecStep {w c k : Nat} {v : Nat → Rat} {R D : List (List Rat)} {P : List Nat} (hr1 : Rect R c) (hr2 : Rect D c) : (SatM w v (q7l (R, D, P) k).1 ∧ SatM w v (q7l (R, D, P) k).2.1) ↔ (SatM w v R ∧ SatM w v D) := by
  unfold q7l
  simp only
  have hfl := (q9s R k R.length 0).2
  split
  ·exact Iff.rfl
  ·rename_i hne
   have hh := fnz_hit R k R.length 0 (by omega)
   generalize fnz R k R.length 0 = i at *
   have hi : i < R.length := by omega
   obtain ⟨p, hp⟩ : ∃ p, p = q8i R i k := ⟨_, rfl⟩
   rw [← hp]
   have hpl : p.length = c := by rw [hp]; exact ecPiv_len hr1 hi k
   have hps : satR w v p ↔ satR w v (rw' R i) := by rw [hp]; exact satR_scl (inv_ne hh)
   rw [← w4e, ← w4e, ← w4e, ← w4e]
   have hRj : ∀ j, j < R.length → (rw' R j).length = c := hr1
   have hDj : ∀ j, j < D.length → (rw' D j).length = c := hr2
   constructor
   ·rintro ⟨h1, h2⟩
    have h3 : satR w v p := h2 p (List.mem_append_right _ (List.mem_singleton.2 rfl))
    refine ⟨fun r hr => ?_, fun r hr => ?_⟩
    ·obtain ⟨j, hj, rfl⟩ := List.mem_iff_getElem.1 hr
     rw [← q1o hj]
     by_cases hji : j = i
     ·rw [hji]; exact hps.1 h3
     ·refine (satR_wo h3 (by rw [hpl, hRj j hj]; exact Nat.le_refl _) k).1 (h1 _ ?_)
      unfold reL
      exact List.mem_map.2 ⟨j, List.mem_filter.2 ⟨List.mem_range.2 hj, by simp [hji]⟩, rfl⟩
    ·obtain ⟨j, hj, rfl⟩ := List.mem_iff_getElem.1 hr
     rw [← q1o hj]
     refine (satR_wo h3 (by rw [hpl, hDj j hj]; exact Nat.le_refl _) k).1 (h2 _ (List.mem_append_left _ ?_))
     unfold dnL
     exact List.mem_map.2 ⟨j, List.mem_range.2 hj, by rw [if_pos hj]⟩
   ·rintro ⟨h1, h2⟩
    have h3 : satR w v p := hps.2 (by rw [q1o hi]; exact h1 _ (List.getElem_mem hi))
    refine ⟨fun r hr => ?_, fun r hr => ?_⟩
    ·unfold reL at hr
     obtain ⟨j, hj, rfl⟩ := List.mem_map.1 hr
     have hj := List.mem_range.1 (List.mem_filter.1 hj).1
     exact (satR_wo h3 (by rw [hpl, hRj j hj]; exact Nat.le_refl _) k).2 (by rw [q1o hj]; exact h1 _ (List.getElem_mem hj))
    ·rcases List.mem_append.1 hr with hr | hr
     ·unfold dnL at hr
      obtain ⟨j, hj, rfl⟩ := List.mem_map.1 hr
      have hj := List.mem_range.1 hj
      have := h2 _ (List.getElem_mem hj)
      rw [← q1o hj] at this
      rw [if_pos hj]
      exact (satR_wo h3 (by rw [hpl, hDj j hj]; exact Nat.le_refl _) k).2 this
     ·rw [List.mem_singleton.1 hr]; exact h3
theorem satM_ecS {w c : Nat} {v : Nat → Rat} {M : List (List Rat)} (hR : Rect M c) : ∀ k, (SatM w v (ecS M k).1 ∧ SatM w v (ecS M k).2.1) ↔ SatM w v M
 | 0 => ⟨fun h => h.1, fun h => ⟨h, fun i hi => by simp [ecS] at hi⟩⟩
 | k + 1 => by
  have ih := satM_ecS (w := w) (v := v) hR k
  obtain ⟨hr1, hr2⟩ := w1v hR k
  rw [← ih, ecS]
  exact satM_ecStep hr1 hr2
def wM (n : Nat) (L : List (List Rat)) : List (List Rat) := (List.range n).map fun i => L.map (fun a => qf a i) ++ mapR (fun j => if j = i then 1 else 0) n
theorem wM_len (n : Nat) (L : List (List Rat)) : (wM n L).length = n := by simp [wM]
theorem qf_app (f g : List Rat) (i : Nat) : qf (f ++ g) i = if i < f.length then qf f i else qf g (i - f.length) := by
 unfold qf
 rw [List.getD_eq_getElem?_getD, List.getElem?_append]
 split <;> rw [List.getD_eq_getElem?_getD]
theorem lin_ex (n : Nat) (L : List (List Rat)) (x : List Rat) : Lin L.length n (qf x) (exM n L x) (wM n L) := by
 refine ⟨by rw [q6i, wM_len], fun i hi => ?_⟩
 rw [q6i] at hi
 rw [exM_row n L x i hi, q1o (by rw [wM_len]; exact hi)]
 have e : (wM n L)[i]'(by rw [wM_len]; exact hi) = L.map (fun a => qf a i) ++ mapR (fun j => if j = i then 1 else 0) n := by simp [wM]
 rw [e]
 refine ⟨exRow_len _ _ _, by rw [List.length_append, List.length_map, q0d], fun j hj => ?_, ?_⟩
 ·unfold w4a
  rw [qf_app, qf_app, List.length_map, if_pos hj, if_pos hj]
 ·rw [exRow_w, A.sm_one _ n i hi fun j hj hji => ?_]
  ·rw [qf_app, List.length_map, if_neg (by omega), Nat.add_sub_cancel_left, q5b, if_pos hi, if_pos rfl, Rat.mul_one]
  ·rw [qf_app, List.length_map, if_neg (by omega), Nat.add_sub_cancel_left, q5b, if_pos hj, if_neg hji, Rat.mul_zero]
theorem sm_combB {a b : Nat} {v : Nat → Rat} {F : Nat → Rat} (hv : ∀ m, Sm a (v m)) (hF : ∀ m, Sm b (F m)) : ∀ n, Sm ((a + b + 1) * n + 1) (A.sm (fun m => v m * F m) n)
 | 0 => sm_zero
 | n + 1 => (sm_add (sm_combB hv hF n) (sm_mul (hv n) (hF n))).mono (by rw [Nat.mul_add]; omega)
section
variable {w m : Nat} {x : Nat → Rat}
theorem LinR.sz {r s : List Rat} (h : LinR w m x r s) (hs : ∀ j, Sm 100 (qf s j)) (hx : ∀ j, Sm 1024 (x j)) (hm : m ≤ 24) (j : Nat) : Sm 30000 (qf r j) := by
 by_cases h1 : j < w
 ·rw [h.ag j h1]; exact (hs j).mono (by decide)
 ·by_cases h2 : j = w
  ·rw [h2, h.cb]
   exact (sm_combB (F := fun j => qf s (w + j)) hx (fun _ => hs _) m).mono (by omega)
  ·rw [q2a (by rw [h.l1]; omega)]; exact sm_zero.mono (by decide)
theorem rw_out {M : List (List Rat)} {i : Nat} (h : M.length ≤ i) : rw' M i = [] := by
 unfold rw'; rw [List.getD_eq_getElem?_getD, List.getElem?_eq_none h]; rfl
theorem Lin.sz {M N : List (List Rat)} (h : Lin w m x M N) (hN : q4s N = true) (hx : ∀ j, Sm 1024 (x j)) (hm : m ≤ 24) (i j : Nat) : Sm 30000 (qf (rw' M i) j) := by
 by_cases hi : i < M.length
 ·exact (h.row i hi).sz (fun j => q7t hN i j) hx hm j
 ·rw [rw_out (by omega), q2a (Nat.zero_le _)]; exact sm_zero.mono (by decide)
end
theorem sz_scl {r : List Rat} {c : Rat} (h : ∀ j, Sm 30000 (qf r j)) (hc : Sm 30000 c) (j : Nat) : Sm 60000 (qf (scl r c) j) := by
 rw [w0j]; exact (sm_mul (h j) hc).mono (by decide)
theorem sz_rdM {M : List (List Rat)} (h : ∀ i j, Sm 30000 (qf (rw' M i) j)) {top i k : Nat} (ht : top < M.length) (hi : i < M.length) (r j : Nat) : Sm 60000 (qf (rw' (rdM M top i k) r) j) := by
 have hs : ∀ r j, Sm 30000 (qf (rw' (q3r M top i []) r) j) := fun r j => by
  by_cases hr : r < M.length
  ·rw [q6x ht hi r hr]; exact h _ _
  ·rw [rw_out (by rw [q1e]; omega), q2a (Nat.zero_le _)]; exact sm_zero.mono (by decide)
 unfold rdM
 rw [q5y _ _ _ _ (by rw [q1e]; exact ht)]
 split
 ·exact sz_scl (hs top) (sm_inv (hs top k) (by decide)) j
 ·exact (hs r j).mono (by decide)
def rdH (M : List (List Rat)) : Nat → (List (List Rat) × List Nat) × Bool
 | 0 => ((M, []), q4s M)
 | k + 1 => (q5o (rdH M k).1 k, (rdH M k).2 && q4s (q5o (rdH M k).1 k).1)
theorem rdH_1 (M : List (List Rat)) : ∀ k, (rdH M k).1 = rdS M k
 | 0 => rfl
 | k + 1 => by rw [rdH, rdS, rdH_1 M k]
theorem rdH_2 (M : List (List Rat)) : ∀ k, (rdH M k).2 = true → ∀ j, j ≤ k → q4s (rdS M j).1 = true
 | 0, h => fun j hj => by rw [show j = 0 by omega]; exact h
 | k + 1, h => by
  rw [rdH, rdH_1] at h
  simp only [Bool.and_eq_true] at h
  intro j hj
  by_cases he : j = k + 1
  ·rw [he]; exact h.2
  ·exact rdH_2 M k h.1 j (by omega)
def ecH (M : List (List Rat)) : Nat → EcT × Bool
 | 0 => ((M, [], []), q4s M)
 | k + 1 => (q7l (ecH M k).1 k, (ecH M k).2 && (q4s (q7l (ecH M k).1 k).1 && q4s (q7l (ecH M k).1 k).2.1))
theorem ecH_1 (M : List (List Rat)) : ∀ k, (ecH M k).1 = ecS M k
 | 0 => rfl
 | k + 1 => by rw [ecH, ecS, ecH_1 M k]
theorem ecH_2 (M : List (List Rat)) : ∀ k, (ecH M k).2 = true → ∀ j, j ≤ k → q4s (ecS M j).1 = true ∧ q4s (ecS M j).2.1 = true
 | 0, h => fun j hj => by rw [show j = 0 by omega]; exact ⟨h, rfl⟩
 | k + 1, h => by
  rw [ecH, ecH_1] at h
  simp only [Bool.and_eq_true] at h
  intro j hj
  by_cases he : j = k + 1
  ·rw [he]; exact h.2
  ·exact ecH_2 M k h.1 j (by omega)
def unit (M : List (List Rat)) (n w : Nat) : Bool := (List.range n).all fun i => (List.range w).all fun j => decide (qf (rw' M i) j = if i = j then 1 else 0)
theorem unit_get {M : List (List Rat)} {n w : Nat} (h : unit M n w = true) (i j : Nat) (hi : i < n) (hj : j < w) : qf (rw' M i) j = if i = j then 1 else 0 :=
 of_decide_eq_true (List.all_eq_true.1 (List.all_eq_true.1 h i (List.mem_range.2 hi)) j (List.mem_range.2 hj))
def zeros (M : List (List Rat)) (w : Nat) : Bool := (List.range M.length).all fun i => (List.range w).all fun j => decide (qf (rw' M i) j = 0)
theorem zeros_get {M : List (List Rat)} {w : Nat} (h : zeros M w = true) (i j : Nat) (hi : i < M.length) (hj : j < w) : qf (rw' M i) j = 0 :=
 of_decide_eq_true (List.all_eq_true.1 (List.all_eq_true.1 h i (List.mem_range.2 hi)) j (List.mem_range.2 hj))
def sm4 (M : List (List Rat)) : Bool := M.all fun r => r.all fun q => decide (q.num.natAbs < 256 ^ 4) && decide (q.den < 256 ^ 4)
def unP (n : Nat) (L : List (List Rat)) : Bool :=
 (rdH (wM n L) L.length).2 && (decide ((rdH (wM n L) L.length).1.2 = List.range L.length) && (unit (rdH (wM n L) L.length).1.1 n L.length && sm4 (rdH (wM n L) L.length).1.1))
def unE (n : Nat) (L : List (List Rat)) : Bool :=
 (ecH (wM n L) L.length).2 && (decide ((ecH (wM n L) L.length).1.2.2 = List.range L.length) && (decide ((ecH (wM n L) L.length).1.2.1.length = L.length) && (unit (ecH (wM n L) L.length).1.2.1 L.length L.length && zeros (ecH (wM n L) L.length).1.1 L.length)))
theorem fnz_none {M : List (List Rat)} {k : Nat} : ∀ {m i : Nat}, fnz M k m i = i + m ↔ ∀ j, i ≤ j → j < i + m → qf (rw' M j) k = 0
 | 0, i => ⟨fun _ j h1 h2 => by omega, fun _ => rfl⟩
 | m + 1, i => by
  unfold fnz
  by_cases h : qf (rw' M i) k = 0
  ·rw [if_pos h]
   have ih := fnz_none (M := M) (k := k) (m := m) (i := i + 1)
   rw [show i + (m + 1) = i + 1 + m by omega, ih]
   constructor
   ·intro h1 j h2 h3
    by_cases hj : j = i
    ·rw [hj]; exact h
    ·exact h1 j (by omega) h3
   ·intro h1 j h2 h3; exact h1 j (by omega) h3
  ·rw [if_neg h]
   constructor
   ·intro h1; omega
   ·intro h1; exact absurd (h1 i (Nat.le_refl _) (by omega)) h
def solveE (n : Nat) (L : List (List Rat)) (x : List Rat) : Option (List Rat) :=
 if L.length ∈ (ecS (exM n L x) (L.length + 1)).2.2 then none else some (mapR (solF (ecS (exM n L x) (L.length + 1)) L.length) L.length)
theorem w4d {w : Nat} {v : Nat → Rat} {r : List Rat} {i : Nat} (hi : i < w) (h : ∀ j, j < w → qf r j = if i = j then 1 else 0) : satR w v r ↔ qf r w = v i := by
 unfold satR
 rw [A.sm_one (fun j => v j * qf r j) w i hi fun j hj hji => by
  show v j * qf r j = 0
  rw [h j hj, if_neg (fun e => hji e.symm), Rat.mul_zero]]
 simp only [h i hi, if_true, Rat.mul_one]
theorem w4c {w : Nat} {v : Nat → Rat} {r : List Rat} (h : ∀ j, j < w → qf r j = 0) : satR w v r ↔ qf r w = 0 := by
 unfold satR
 rw [A.sm_zero' fun j hj => by
  show v j * qf r j = 0
  rw [h j hj, Rat.mul_zero]]
theorem rd_ok {n : Nat} {L : List (List Rat)} {x : List Rat} (hu : ∀ j, j ≤ L.length → q4s (rdS (wM n L) j).1 = true) (hx : ∀ j, Sm 1024 (qf x j)) (hn : n ≤ 24) : RdOk (exM n L x) L.length := by
 have h := lin_ex n L x
 have hs : ∀ k, k ≤ L.length → ∀ i j, Sm 30000 (qf (rw' (rdS (exM n L x) k).1 i) j) := fun k hk => (h.steps k hk).1.sz (hu k hk) hx hn
 refine ⟨fun k hk i j => (hs k hk i j).mono (by decide), fun k hk ht hf => ?_⟩
 have hl := q7y (exM n L x) k
 have h2 := sz_rdM (hs k (by omega)) (k := k) (show (rdS (exM n L x) k).2.length < (rdS (exM n L x) k).1.length by omega) (show fnz (rdS (exM n L x) k).1 k ((exM n L x).length - (rdS (exM n L x) k).2.length) (rdS (exM n L x) k).2.length < (rdS (exM n L x) k).1.length by omega)
 exact ⟨fun i j => (h2 i j).mono (by decide), fun i j => (sm_mul (h2 i k) (h2 _ j)).mono (by decide)⟩
theorem ec_ok {n : Nat} {L : List (List Rat)} {x : List Rat} (hu : ∀ j, j ≤ L.length → q4s (ecS (wM n L) j).1 = true ∧ q4s (ecS (wM n L) j).2.1 = true) (hx : ∀ j, Sm 1024 (qf x j)) (hn : n ≤ 24) : EcOk (exM n L x) (L.length + 1) := by
 have h := lin_ex n L x
 have h1 : ∀ k, k < L.length + 1 → ∀ i j, Sm 30000 (qf (rw' (ecS (exM n L x) k).1 i) j) := fun k hk => (h.ecS k (by omega)).1.sz (hu k (by omega)).1 hx hn
 have h2 : ∀ k, k < L.length + 1 → ∀ i j, Sm 30000 (qf (rw' (ecS (exM n L x) k).2.1 i) j) := fun k hk => (h.ecS k (by omega)).2.1.sz (hu k (by omega)).2 hx hn
 refine ⟨fun k hk i j => (h1 k hk i j).mono (by decide), fun k hk i j => (h2 k hk i j).mono (by decide), fun k hk i hi _ => ?_⟩
 have hv := sm_inv (h1 k hk i k) (by decide)
 have hp : ∀ j, Sm 60000 (qf (q8i (ecS (exM n L x) k).1 i k) j) := fun j => sz_scl (h1 k hk i) hv j
 refine ⟨hv.mono (by decide), fun y hy => ?_, fun j l => (sm_mul (h1 k hk j k) (hp l)).mono (by decide), fun j l => (sm_mul (h2 k hk j k) (hp l)).mono (by decide)⟩
 obtain ⟨j, hj, rfl⟩ := List.mem_iff_getElem.1 hy
 rw [← q1y hj]
 exact (hp j).mono (by decide)
theorem co_eq {n : Nat} {L : List (List Rat)} {x : List Rat} (hp : unP n L = true) (he : unE n L = true) (hw : L.length ≤ n) : q3e n L x = solveE n L x := by
 unfold unP at hp
 simp only [Bool.and_eq_true, decide_eq_true_iff, rdH_1] at hp
 unfold unE at he
 simp only [Bool.and_eq_true, decide_eq_true_iff, ecH_1] at he
 obtain ⟨_, p2, p3, _⟩ := hp
 obtain ⟨_, e2, e3, e4, e5⟩ := he
 have h := lin_ex n L x
 have hR : Rect (exM n L x) (L.length + 1) := exM_rect n L x
 obtain ⟨a1, a2⟩ := h.steps L.length (Nat.le_refl _)
 obtain ⟨b1, b2, b3⟩ := h.ecS L.length (Nat.le_refl _)
 have satP := fun v => satM_rdS (w := L.length) (v := v) hR L.length
 have satE := fun v => satM_ecS (w := L.length) (v := v) hR L.length
 have hlA := q7y (exM n L x) L.length
 rw [q6i] at hlA
 rw [p2] at a2
 rw [e2] at b3
 have hDl := b2.len
 rw [e3] at hDl
 have hRl := b1.len
 generalize hw0 : L.length = w at *
 have uP : ∀ i j, i < n → j < w → qf (rw' (rdS (exM n L x) w).1 i) j = if i = j then 1 else 0 := fun i j hi hj => by
  rw [(a1.row i (by omega)).ag j hj]; exact unit_get p3 i j hi hj
 have uD : ∀ i j, i < w → j < w → qf (rw' (ecS (exM n L x) w).2.1 i) j = if i = j then 1 else 0 := fun i j hi hj => by
  rw [(b2.row i (by omega)).ag j hj]; exact unit_get e4 i j hi hj
 have uR : ∀ i j, i < (ecS (exM n L x) w).1.length → j < w → qf (rw' (ecS (exM n L x) w).1 i) j = 0 := fun i j hi hj => by
  rw [(b1.row i hi).ag j hj]; exact zeros_get e5 i j (by omega) hj
 have cP : ∀ v, SatM w v (exM n L x) ↔ (∀ i, i < w → qf (rw' (rdS (exM n L x) w).1 i) w = v i) ∧ ∀ i, w ≤ i → i < n → qf (rw' (rdS (exM n L x) w).1 i) w = 0 := fun v => by
  rw [← satP v]
  constructor
  ·intro hs
   refine ⟨fun i hi => (w4d hi fun j hj => uP i j (by omega) hj).1 (hs i (by omega)), fun i h1 h2 => (w4c fun j hj => by rw [uP i j h2 hj, if_neg (by omega)]).1 (hs i (by omega))⟩
  ·rintro ⟨h1, h2⟩ i hi
   by_cases hiw : i < w
   ·exact (w4d hiw fun j hj => uP i j (by omega) hj).2 (h1 i hiw)
   ·exact (w4c fun j hj => by rw [uP i j (by omega) hj, if_neg (by omega)]).2 (h2 i (by omega) (by omega))
 have cE : ∀ v, SatM w v (exM n L x) ↔ (∀ i, i < w → qf (rw' (ecS (exM n L x) w).2.1 i) w = v i) ∧ ∀ i, i < (ecS (exM n L x) w).1.length → qf (rw' (ecS (exM n L x) w).1 i) w = 0 := fun v => by
  rw [← satE v]
  constructor
  ·rintro ⟨h1, h2⟩
   exact ⟨fun i hi => (w4d hi fun j hj => uD i j hi hj).1 (h2 i (by omega)), fun i hi => (w4c fun j hj => uR i j hi hj).1 (h1 i hi)⟩
  ·rintro ⟨h1, h2⟩
   exact ⟨fun i hi => (w4c fun j hj => uR i j hi hj).2 (h2 i hi), fun i hi => (w4d (by omega) fun j hj => uD i j (by omega) hj).2 (h1 i (by omega))⟩
 have hrl : (List.range w).length = w := List.length_range
 have ansP : ((∀ i, w ≤ i → i < n → qf (rw' (rdS (exM n L x) w).1 i) w = 0) → q3e n L x = some (mapR (fun i => qf (rw' (rdS (exM n L x) w).1 i) w) w)) ∧ (¬ (∀ i, w ≤ i → i < n → qf (rw' (rdS (exM n L x) w).1 i) w = 0) → q3e n L x = none) := by
  unfold q3e
  simp only []
  rw [hw0, a2, hrl]
  have hc : exC (rdS (exM n L x) w).1 w w n = true ↔ ∀ i, w ≤ i → i < n → qf (rw' (rdS (exM n L x) w).1 i) w = 0 := by
   unfold exC
   rw [List.all_eq_true]
   constructor
   ·intro h1 i h2 h3
    have := h1 i (List.mem_range.2 h3)
    rw [decide_eq_false (by omega), Bool.false_or] at this
    exact of_decide_eq_true this
   ·intro h1 i hi
    have hi := List.mem_range.1 hi
    by_cases h2 : i < w
    ·rw [decide_eq_true h2, Bool.true_or]
    ·rw [h1 i (by omega) hi, decide_eq_true rfl, Bool.or_true]
  constructor
  ·intro hcc
   rw [if_pos (hc.2 hcc), exL_get _ w _ (fun i _ => rfl) w (Nat.le_refl _)]
   congr 1
   exact q1w fun j hj => by rw [if_pos hj]
  ·intro hcc
   rw [if_neg (fun x => hcc (hc.1 x))]
 have ansE : ((∀ i, i < (ecS (exM n L x) w).1.length → qf (rw' (ecS (exM n L x) w).1 i) w = 0) → solveE n L x = some (mapR (fun i => qf (rw' (ecS (exM n L x) w).2.1 i) w) w)) ∧ (¬ (∀ i, i < (ecS (exM n L x) w).1.length → qf (rw' (ecS (exM n L x) w).1 i) w = 0) → solveE n L x = none) := by
  unfold solveE
  rw [hw0]
  have hf := fnz_none (M := (ecS (exM n L x) w).1) (k := w) (m := (ecS (exM n L x) w).1.length) (i := 0)
  rw [Nat.zero_add] at hf
  constructor
  ·intro hcc
   rw [ecS_done (hf.2 fun j _ hj => hcc j hj), b3, if_neg (by simp)]
   congr 1
   refine q1w fun j hj => ?_
   unfold solF
   rw [b3, if_pos (List.mem_range.2 hj)]
   have : pvAt (List.range w) j = j := by
    unfold pvAt
    rw [if_pos (List.mem_range.2 hj)]
    have h1 := List.idxOf_lt_length_of_mem (List.mem_range.2 hj)
    have h2 := List.getElem_idxOf h1
    rw [List.getElem_range] at h2
    exact h2
   rw [this]
  ·intro hcc
   have hne : fnz (ecS (exM n L x) w).1 w (ecS (exM n L x) w).1.length 0 ≠ (ecS (exM n L x) w).1.length := fun e => hcc fun i hi => hf.1 e i (Nat.zero_le _) hi
   have hlt := (q9s (ecS (exM n L x) w).1 w (ecS (exM n L x) w).1.length 0).2
   rw [ecS_step rfl (by omega), if_pos (List.mem_append_right _ (List.mem_singleton.2 rfl))]
 by_cases hP : ∀ i, w ≤ i → i < n → qf (rw' (rdS (exM n L x) w).1 i) w = 0
 ·obtain ⟨h1, h2⟩ := (cE fun i => qf (rw' (rdS (exM n L x) w).1 i) w).1 ((cP _).2 ⟨fun i _ => rfl, hP⟩)
  rw [ansP.1 hP, ansE.1 h2]
  congr 1
  exact q1w fun j hj => (h1 j hj).symm
 ·rw [ansP.2 hP, ansE.2]
  intro hE
  exact hP ((cP fun i => qf (rw' (ecS (exM n L x) w).2.1 i) w).1 ((cE _).2 ⟨fun i _ => rfl, hE⟩)).2
theorem refCo_E (p f : Nat) (x : List Rat) : refCo p f x = solveE (p - 1) (q0f p f) x := by
 unfold refCo solveL solveE solT
 rw [wide_ex]
section
variable {p f y k : Nat}
theorem back {y' h : Nat} (hy : y * y' % p = 1) (hh : h < p) : y * h % p * y' % p = h := by
 rw [Nat.mod_mul_mod, Nat.mul_right_comm, Nat.mul_mod, hy, Nat.one_mul, Nat.mod_mod, Nat.mod_eq_of_lt hh]
end
end Gx
end
