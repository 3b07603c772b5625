/- Lemmas for the row: plain facts, or contracts of functions. -/
import Derived.Test.YtehnbdbhjeffaaaGreatGz2
import Derived.Test.YtehnbdbhjeffaaaGreatGz11
import Derived.Test.YtehnbdbhjeffaaaGreatGz12
set_option linter.all false
section
set_option autoImplicit false
namespace Gx
open Go Go.Proofs
open Go.Proofs.Tryz (prog)
set_option maxRecDepth 10000
theorem c_IntMake (lk : Nat) (H : Heap) (b : Bool) (l : List UInt8) : q0c prog md lk 157 [.bool b, .string (mkS l)] H = some (.agg #[.bool (b && !decide (l = [])), .string (mkS l)], H) := by
 refine q0a rfl Tryz.func157 rfl rfl ?_
 simp -dsimp only [go_sem]
 cases b <;> simp -dsimp only [go_sem]

theorem w3s (lk : Nat) (H : Heap) (b : Nat) (ws : List Nat) (n : Nat) (hn : n ≤ ws.length) (hl : n < 4000000000) (hH : q0e H b = some (wblk ws)) :
  q0c prog md lk 230 [.slice (some ⟨b, 0, none⟩) n n] H = some (.slice (some ⟨b, 0, none⟩) (q1h ws n) (q1h ws n), H) := by
 have e : H = H ++ [] := (List.append_nil H).symm
 conv => rhs; rw [e]
 refine q4x rfl Tryz.func230 rfl ?_
 simp -dsimp only [go_sem]
 refine q0h (m := id) (I := fun k σ H' => k ≤ n ∧ q1h ws k = q1h ws n ∧ H' = H ∧ σ 0 = .slice (some ⟨b, 0, none⟩) n n ∧ σ 3 = .int .i64 (k : Int)) n ?_ ?_
 ·simp -dsimp only [go_sem]
 ·rintro k σ H' ⟨h1, h2, rfl, h0, h3⟩
  simp -dsimp only [go_sem, h0, h3]
  have hB : H'[b]? = some (wblk ws) := q2y hH
  refine q0y (fun hk => ?_) (fun hk => ?_)
  ·have hk1 : k - 1 < ws.length := by omega
   have hk2 : k - 1 < n := by omega
   have e1 : IntKind.i64.wrap ((k : Int) - 1) = ((k - 1 : Nat) : Int) := by rw [w64 (by omega) (by omega)]; omega
   simp -dsimp only [go_sem, h0, h3, e1, hH, wblk, q0k ws _ hk1, hk, hk2]
   have e3 : q1h ws k = if ws[k - 1] = 0 then q1h ws (k - 1) else k := by
    obtain ⟨j, rfl⟩ : ∃ j, k = j + 1 := ⟨k - 1, by omega⟩
    simp only [q1h, Nat.add_sub_cancel]
    simp only [Nat.add_sub_cancel] at hk1
    simp [List.getD, hk1]
   refine q0y (fun hz => ?_) (fun hz => ?_)
   ·simp -dsimp only [go_sem, h0, h3, e1]
    have hz' : ws[k - 1] = 0 := by omega
    rw [if_pos hz'] at e3
    exact next (k - 1) (by simp only [id]; omega) ⟨by omega, by rw [← e3, h2], rfl, h0, rfl⟩
   ·have hz' : ws[k - 1] ≠ 0 := by omega
    rw [if_neg hz', h2] at e3
    simp -dsimp only [go_sem, h0, h3, hB, h1, wblk, e3]
    exact compV_old (q0w hH)
  ·have hk0 : k = 0 := by omega
   subst hk0
   simp -dsimp only [go_sem, h0, h3, hk, hB, wblk, ← h2]
   exact compV_old (q0w hH)

theorem q6j (lk : Nat) (H : Heap) (l : List UInt8) (hl : l.length < 1000000000) :
  q0c prog md lk 212 [.string (mkS l)] H = some (.slice (some ⟨H.length, 0, none⟩) (digs (bval l)).length (digs (bval l)).length, H ++ [wblk (digs (bval l))]) := by
 refine q4x rfl Tryz.func212 rfl ?_
 have e1 : IntKind.i64.wrap ((IntKind.i64.wrap ((l.length : Int) + 7)).tdiv 8) = (((l.length + 7) / 8 : Nat) : Int) := by
  rw [w64 (n := (l.length : Int) + 7) (by omega) (by omega), Int.tdiv_eq_ediv_of_nonneg (by omega)]
  rw [w64 (by omega) (by omega)]; omega
 simp -dsimp only [go_sem, e1]
 refine ⟨by omega, ?_⟩
 refine q0h (m := fun i => l.length - i) (I := fun i σ H' => i ≤ l.length ∧ H' = H ++ [wblk (q6m l i)] ∧ σ 0 = .string (mkS l) ∧ σ 3 = .slice (some ⟨H.length, 0, none⟩) ((l.length + 7) / 8) ((l.length + 7) / 8) ∧ σ 12 = .int .i64 (l.length : Int) ∧ σ 13 = .int .i64 (i : Int)) 0 ?_ ?_
 ·refine ⟨Nat.zero_le _, ?_, rfl, rfl, rfl, rfl⟩
  rw [wfill_zero, q3j]; rfl
 ·rintro i σ H' ⟨h1, rfl, h0, h3, h12, h13⟩
  simp -dsimp only [go_sem, h12, h13]
  refine q0y (fun hi => ?_) (fun hi => ?_)
  ·have hi' : i < l.length := by omega
   have e2 : IntKind.i64.wrap (IntKind.i64.wrap ((l.length : Int) - 1) - (i : Int)) = ((l.length - 1 - i : Nat) : Int) := by
    rw [w64 (n := (l.length : Int) - 1) (by omega) (by omega), w64 (by omega) (by omega)]; omega
   have e3 : IntKind.i64.wrap (((l.length - 1 - i : Nat) : Int).tdiv 8) = (((l.length - 1 - i) / 8 : Nat) : Int) := by
    rw [Int.tdiv_eq_ediv_of_nonneg (by omega), w64 (by omega) (by omega)]; omega
   have e4 : IntKind.i64.wrap (8 * ((l.length - 1 - i : Nat) : Int).tmod 8) = ((8 * ((l.length - 1 - i) % 8) : Nat) : Int) := by
    rw [Int.tmod_eq_emod_of_nonneg (by omega), w64 (by omega) (by omega)]; omega
   obtain ⟨hg, hv⟩ := wfill_get l i hi'
   simp -dsimp only [go_sem, h0, h3, h12, h13, e2, e3, e4, wblk, hi', q0k _ _ hg, hv, byt_mkS l i hi']
   refine ⟨by omega, ?_⟩
   have hb : l[i].toNat < 256 := l[i].toNat_lt
   obtain ⟨s1, s2⟩ := word_step (bval (l.take i)) l[i].toNat ((l.length - 1 - i) % 8) (by omega) hb
   have hx : bval (l.take i) * 256 ^ ((l.length - 1 - i) % 8 + 1) % B64 < 18446744073709551616 := Nat.mod_lt _ (by decide)
   have hj : (l.length - 1 - i) / 8 < (q6m l i).length := hg
   have e7 : IntKind.i64.wrap ((i : Int) + 1) = ((i + 1 : Nat) : Int) := by rw [w64 (by omega) (by omega)]; omega
   rw [shl_byte hb (by omega), w4n hx (by simp only [B64] at *; omega)]
   simp -dsimp only [go_sem, h13, q0p _ _ _ hj, hg, w0z, e7]
   refine ⟨by omega, by omega, ?_⟩
   refine next (i + 1) (by show l.length - (i + 1) < l.length - i; omega) ⟨hi', ?_, h0, h3, h12, rfl⟩
   rw [wfill_succ l i hi']
  ·have : i = l.length := by omega
   subst this
   simp -dsimp only [go_sem, h0, h3, h12, h13]
   have ht := w3s H.length (H ++ [wblk (q6m l l.length)]) H.length (q6m l l.length) ((l.length + 7) / 8) (by rw [w0z]; omega) (by omega) (by simp -dsimp only [go_sem, wblk])
   have e8 := trim_eq _ (wfill_lt l l.length)
   have e9 := trim_len _ (wfill_lt l l.length)
   rw [wval_wfill, w0z] at e8 e9
   simp -dsimp only [go_sem, ht]
   have := w0u (H := H ++ [wblk (q6m l l.length)]) (n0 := H.length) (b := H.length) (ws := q6m l l.length) (n := q1h (q6m l l.length) ((l.length + 7) / 8)) (Nat.le_refl _) (by simp -dsimp only [go_sem, wblk]) (by rw [w0z]; exact q2v _ _)
   rw [this, e8, e9]

theorem c_pack (lk : Nat) (H : Heap) (b : Nat) (ws : List Nat) (n : Nat) (hn : n ≤ ws.length) (hl : n < 2000000000) (hw : ∀ w ∈ ws, w < B64) (hH : q0e H b = some (wblk ws)) :
  q0c prog md lk 210 [.slice (some ⟨b, 0, none⟩) n n] H = some (.string (mkS (q0b (wval (ws.take n)))), H) := by
 refine q0a rfl Tryz.func210 rfl rfl ?_
 have ht := w3s H.length H b ws n hn (by omega) hH
 have e1 := take_trimTo ws hw n hn
 have e2 : q1h ws n ≤ n := q2v _ _
 have hB : H[b]? = some (wblk ws) := q2y hH
 generalize wval (ws.take n) = v at e1
 generalize q1h ws n = k at ht e1 e2
 have hlk : (ws.take k).length = k := by rw [List.length_take]; omega
 simp -dsimp only [go_sem, ht]
 refine q0y (fun hk => ?_) (fun hk => ?_)
 ·simp -dsimp only [go_sem]
  have : k = 0 := by omega
  subst this
  rw [List.take_zero] at e1
  have : v = 0 := by have := wval_digs v; rw [← e1] at this; exact this.symm
  rw [this, q1c]
 ·have e3 : IntKind.i64.wrap (8 * (k : Int)) = ((8 * k : Nat) : Int) := by rw [w64 (by omega) (by omega)]; omega
  simp -dsimp only [go_sem, e3]
  refine ⟨by omega, ?_⟩
  refine q0h (m := fun i => k - i) (I := fun i σ H' => i ≤ k ∧ H' = H ++ [bblk (q7h v (8 * k) (8 * i))] ∧ σ 3 = .slice (some ⟨H.length, 0, none⟩) (8 * k) (8 * k) ∧ σ 17 = .slice (some ⟨b, 0, none⟩) k k ∧ σ 18 = .int .i64 (k : Int) ∧ σ 19 = .int .i64 (i : Int)) 0 ?_ ?_
  ·refine ⟨Nat.zero_le _, ?_, rfl, rfl, rfl, rfl⟩
   rw [bfill_zero, bcells_rep]; rfl
  ·rintro i σ H' ⟨h1, rfl, h3, h17, h18, h19⟩
   simp -dsimp only [go_sem, h18, h19]
   refine q0y (fun hi => ?_) (fun hi => ?_)
   ·have hi' : i < ws.length := by omega
    simp -dsimp only [go_sem, h3, h17, h18, h19, q0u hH, wblk, hi, q0k ws i hi']
    have hv := take_get e1 hi hi'
    refine q0h (m := fun j => 8 - j) (I := fun j σ H' => j ≤ 8 ∧ H' = H ++ [bblk (q7h v (8 * k) (8 * i + j))] ∧ σ 3 = .slice (some ⟨H.length, 0, none⟩) (8 * k) (8 * k) ∧ σ 4 = .int .i64 (i : Int) ∧ σ 5 = .int .u64 ((ws[i] : Nat) : Int) ∧ σ 17 = .slice (some ⟨b, 0, none⟩) k k ∧ σ 18 = .int .i64 (k : Int) ∧ σ 19 = .int .i64 (i : Int) ∧ σ 24 = .int .i64 (j : Int)) 0 ?_ ?_
    ·exact ⟨by omega, rfl, h3, rfl, rfl, h17, h18, h19, rfl⟩
    ·rintro j σ H' ⟨h1, rfl, h3, h4, h5, h17, h18, h19, h24⟩
     simp -dsimp only [go_sem, h24]
     refine q0y (fun hj => ?_) (fun hj => ?_)
     ·have hj8 : j < 8 := by omega
      have e5 : IntKind.i64.wrap (IntKind.i64.wrap (IntKind.i64.wrap (((8 * k : Nat) : Int) - 1) - IntKind.i64.wrap (8 * (i : Int))) - (j : Int)) = ((8 * k - 1 - (8 * i + j) : Nat) : Int) := by
       rw [w64 (n := ((8 * k : Nat) : Int) - 1) (by omega) (by omega), w64 (n := 8 * (i : Int)) (by omega) (by omega), w64 (n := ((8 * k : Nat) : Int) - 1 - 8 * (i : Int)) (by omega) (by omega), w64 (by omega) (by omega)]; omega
      have e6 : IntKind.i64.wrap (8 * (j : Int)) = ((8 * j : Nat) : Int) := by rw [w64 (by omega) (by omega)]; omega
      have e7 : IntKind.i64.wrap ((j : Int) + 1) = ((j + 1 : Nat) : Int) := by rw [w64 (by omega) (by omega)]; omega
      have hq : 8 * k - 1 - (8 * i + j) < (q7h v (8 * k) (8 * i + j)).length := by rw [q8q]; omega
      have hq' : 8 * k - 1 - (8 * i + j) < 8 * k := by omega
      simp -dsimp only [go_sem, h3, h4, h5, h17, h18, h19, h24, e5, e6, e7, shr_byte _ _ hj8, bblk, bcells_put _ _ _ hq, q8q, hq']
      refine next (j + 1) (by show 8 - (j + 1) < 8 - j; omega) ⟨hj8, ?_, h3, h4, h5, h17, h18, h19, rfl⟩
      rw [hv, byte_of_word _ _ _ hj8, ← Nat.add_assoc, bfill_succ _ _ _ (by omega)]
     ·have : j = 8 := by omega
      subst this
      have e7 : IntKind.i64.wrap ((i : Int) + 1) = ((i + 1 : Nat) : Int) := by rw [w64 (by omega) (by omega)]; omega
      simp -dsimp only [go_sem, h3, h4, h5, h17, h18, h19, h24, e7]
      refine next (i + 1) (by show k - (i + 1) < k - i; omega) ⟨hi, ?_, h3, h17, h18, rfl⟩
      rw [show 8 * (i + 1) = 8 * i + 8 by omega]
   ·simp -dsimp only [go_sem, h3, h17, h18, h19]
    have : i = k := by omega
    subst this
    have hv0 : v ≠ 0 := by
     rintro rfl
     rw [digs_zero] at e1
     rw [e1] at hlk
     simp at hlk
     omega
    have hvl : bval (q7h v (8 * i) (8 * i)) = v := by
     rw [bval_bfill, Nat.pow_mul, show 256 ^ 8 = B64 from rfl]
     apply Nat.mod_eq_of_lt
     have := wval_lt (digs v) (digs_lt v)
     rw [wval_digs, ← e1, hlk] at this
     exact this
    have hbl := q8q v (8 * i) (8 * i)
    generalize q7h v (8 * i) (8 * i) = l at hvl hbl
    refine q0h (m := fun z => 8 * i - z) (I := fun z σ H' => z ≤ 8 * i ∧ bval (l.drop z) = v ∧ H' = H ++ [bblk l] ∧ σ 3 = .slice (some ⟨H.length, 0, none⟩) (8 * i) (8 * i) ∧ σ 7 = .int .i64 (z : Int)) 0 ?_ ?_
    ·exact ⟨Nat.zero_le _, by rw [List.drop_zero]; exact hvl, rfl, h3, rfl⟩
    ·rintro z σ H' ⟨h1, h2, rfl, h3, h7⟩
     have hz : z < l.length := by
      apply Nat.lt_of_not_le
      intro hz
      rw [List.drop_eq_nil_of_le hz] at h2
      exact hv0 h2.symm
     have hz' : z < 8 * i := by omega
     have e9 : l.drop z = l[z] :: l.drop (z + 1) := List.drop_eq_getElem_cons hz
     simp -dsimp only [go_sem, h3, h7, bblk, bcells_get l z hz, hz']
     refine q0y (fun hl0 => ?_) (fun hl0 => ?_)
     ·have e7 : IntKind.i64.wrap ((z : Int) + 1) = ((z + 1 : Nat) : Int) := by rw [w64 (by omega) (by omega)]; omega
      simp -dsimp only [go_sem, h3, h7, e7]
      refine next (z + 1) (by show 8 * i - (z + 1) < 8 * i - z; omega) ⟨hz', ?_, rfl, h3, rfl⟩
      have hlz : l[z] = 0 := by apply UInt8.toNat_inj.1; simp; omega
      rw [e9, hlz, bval_cons_zero] at h2; exact h2
     ·have hlz : l[z] ≠ 0 := by intro h; rw [h] at hl0; simp at hl0
      have e10 : q0b v = l.drop z := by
       rw [← h2]; apply w3e
       intro x hx; rw [e9, List.head?_cons, Option.mem_some_iff] at hx; rw [← hx]; exact hlz
      have e11 : (8 * i - z = 0) = False := by simp; omega
      simp -dsimp only [go_sem, h3, h7, bblk, e11, isub_bcells l z (8 * i - z) (by omega), q9u, h1]
      rw [e10]
theorem q8n (lk : Nat) (H : Heap) (x y c : Nat) (hc : c ≤ 1) : q0c prog md lk 227 [.int .u64 (x : Int), .int .u64 (y : Int), .int .u64 (c : Int)] H = some (.tuple #[.int .u64 (((x + y + c) % B64 : Nat) : Int), .int .u64 (((x + y + c) / B64 : Nat) : Int)], H) := by
 rw [gcall_ext Tryz.func227 rfl rfl, show Tryz.f227.name = "math/bits.Add64" from rfl]
 unfold w0p
 simp only []
 rw [if_pos (by omega), if_pos trivial]
 simp [B64]
theorem c_Sub64 (lk : Nat) (H : Heap) (x y c : Nat) (hy : y < B64) (hc : c ≤ 1) : q0c prog md lk 228 [.int .u64 (x : Int), .int .u64 (y : Int), .int .u64 (c : Int)] H = some (.tuple #[.int .u64 (((x + B64 - y - c) % B64 : Nat) : Int), .int .u64 ((if x < y + c then 1 else 0 : Nat) : Int)], H) := by
 rw [gcall_ext Tryz.func228 rfl rfl, show Tryz.f228.name = "math/bits.Sub64" from rfl]
 unfold w0p
 simp only [B64] at *
 rw [if_pos (by omega), if_neg (by decide), if_pos trivial, if_pos (by omega)]
 have e1 : ((x : Int) + 18446744073709551616 - y - c) % 18446744073709551616 = (((x + 18446744073709551616 - y - c) % 18446744073709551616 : Nat) : Int) := by omega
 have e2 : (if (x : Int) < y + c then (1 : Int) else 0) = ((if x < y + c then 1 else 0 : Nat) : Int) := by
  by_cases h : x < y + c
  ·rw [if_pos h, if_pos (by omega)]; rfl
  ·rw [if_neg h, if_neg (by omega)]; rfl
 rw [e1, e2]; rfl

theorem c_NatCmp (lk : Nat) (H : Heap) (a b : Nat) : q0c prog md lk 206 [.string (mkS (q0b a)), .string (mkS (q0b b))] H = some (.int .i64 (if a < b then -1 else if a = b then 0 else 1), H) := by
 refine q0a rfl Tryz.func206 rfl rfl ?_
 simp -dsimp only [go_sem]
 refine q0y (fun h1 => ?_) (fun h1 => ?_)
 ·simp -dsimp only [go_sem, h1]
  rw [if_pos (q6e h1)]
 ·simp -dsimp only [go_sem, h1]
  refine q0y (fun h2 => ?_) (fun h2 => ?_)
  ·simp -dsimp only [go_sem, h1, eq_true h2, q9v _ _ h2, q1d]
   refine q0y (fun h3 => ?_) (fun h3 => ?_)
   ·simp -dsimp only [go_sem]
    rw [if_pos h3]
   ·simp -dsimp only [go_sem, q1f]
    refine q0y (fun h4 => ?_) (fun h4 => ?_)
    ·simp -dsimp only [go_sem]
     rw [if_neg h3, if_pos h4]
    ·simp -dsimp only [go_sem]
     rw [if_neg h3, if_neg h4]
  ·simp -dsimp only [go_sem, h1, h2, q1f]
   have h3 := q6e (a := b) (b := a) (by omega)
   have h4 : (a = b) = False := by simp; omega
   simp -dsimp only [go_sem, h4]
   rw [if_neg (by omega)]

theorem c_NatAdd (lk : Nat) (H : Heap) (a b : Nat) (ha : (q0b a).length < 100000000) (hb : (q0b b).length < 100000000) : q0c prog md lk 205 [.string (mkS (q0b a)), .string (mkS (q0b b))] H = some (.string (mkS (q0b (a + b))), H) := by
 refine q0a rfl Tryz.func205 rfl rfl ?_
 have hA := fun lk => q6j lk H (q0b a) (by omega)
 have hB := fun lk => q6j lk (H ++ [wblk (digs a)]) (q0b b) (by omega)
 simp only [q1d] at hA hB
 simp -dsimp only [go_sem, hA, hB]
 refine w0q (fun σ H' => ∃ x y p q, x + y = a + b ∧ (digs y).length ≤ (digs x).length ∧ (digs x).length < 1000000000 ∧ σ 5 = .slice (some ⟨p, 0, none⟩) (digs x).length (digs x).length ∧ σ 6 = .slice (some ⟨q, 0, none⟩) (digs y).length (digs y).length ∧ q0e H' p = some (wblk (digs x)) ∧ q0e H' q = some (wblk (digs y)) ∧ H.length ≤ H'.length) (fun h => ?_) (fun h => ?_) ?_
 ·simp -dsimp only [go_sem]
  have h := of_decide_eq_true h
  refine ⟨b, a, _, _, by omega, by omega, ?_, rfl, rfl, ?_, ?_, ?_⟩
  ·exact Nat.lt_of_le_of_lt (digs_len_bytes b) (by omega)
  ·simp -dsimp only [go_sem, wblk]
  ·simp -dsimp only [go_sem, wblk]
  ·simp
 ·simp -dsimp only [go_sem]
  have h := of_decide_eq_false h
  refine ⟨a, b, _, _, rfl, by omega, ?_, rfl, rfl, ?_, ?_, ?_⟩
  ·exact Nat.lt_of_le_of_lt (digs_len_bytes a) (by omega)
  ·simp -dsimp only [go_sem, wblk]
  ·simp -dsimp only [go_sem, wblk]
  ·simp
 ·rintro σ H' ⟨x, y, p, q, hab, hle, hlx, h5, h6, hp, hq, hH⟩
  have e1 : IntKind.i64.wrap (((digs x).length : Int) + 1) = (((digs x).length + 1 : Nat) : Int) := by rw [w64 (by omega) (by omega)]; omega
  simp -dsimp only [go_sem, h5, e1]
  refine ⟨by omega, ?_⟩
  have hxl := lt_pow_digs x
  have hyl : y < B64 ^ (digs x).length := Nat.lt_of_lt_of_le (lt_pow_digs y) (Nat.pow_le_pow_right (by decide) hle)
  have hgx := digs_get x
  have hgy := digs_get y
  have hhy := fun i => high_zero y i 0
  generalize digs x = dx at *
  generalize digs y = dy at *
  refine q0h (m := fun i => dx.length - i) (I := fun i σ H2 => i ≤ dx.length ∧ H2 = H' ++ [wblk (addFill x y (dx.length + 1) i)] ∧ σ 5 = .slice (some ⟨p, 0, none⟩) dx.length dx.length ∧ σ 6 = .slice (some ⟨q, 0, none⟩) dy.length dy.length ∧ σ 7 = .slice (some ⟨H'.length, 0, none⟩) (dx.length + 1) (dx.length + 1) ∧ σ 8 = .int .u64 ((lowSum x y i / B64 ^ i : Nat) : Int) ∧ σ 27 = .int .i64 (dx.length : Int) ∧ σ 28 = .int .i64 (i : Int)) 0 ?_ ?_
  ·refine ⟨Nat.zero_le _, ?_, h5, h6, rfl, ?_, rfl, rfl⟩
   ·rw [addFill_zero, q3j]; rfl
   ·simp [lowSum, Nat.mod_one, upd]
  ·rintro i σ H2 ⟨h1, rfl, h5, h6, h7, h8, h27, h28⟩
   simp -dsimp only [go_sem, h27, h28]
   refine q0y (fun hi => ?_) (fun hi => ?_)
   ·simp -dsimp only [go_sem, h6, h28]
    refine w0q (fun σ H3 => H3 = H' ++ [wblk (addFill x y (dx.length + 1) i)] ∧ σ 5 = .slice (some ⟨p, 0, none⟩) dx.length dx.length ∧ σ 6 = .slice (some ⟨q, 0, none⟩) dy.length dy.length ∧ σ 7 = .slice (some ⟨H'.length, 0, none⟩) (dx.length + 1) (dx.length + 1) ∧ σ 8 = .int .u64 ((lowSum x y i / B64 ^ i : Nat) : Int) ∧ σ 9 = .int .i64 (i : Int) ∧ σ 10 = .int .u64 ((y / B64 ^ i % B64 : Nat) : Int) ∧ σ 27 = .int .i64 (dx.length : Int) ∧ σ 28 = .int .i64 (i : Int)) (fun h => ?_) (fun h => ?_) ?_
    ·have h := of_decide_eq_true h
     simp -dsimp only [go_sem, h6, h28, q0u hq, wblk, q0k _ _ h, h]
     exact ⟨rfl, h5, h6, h7, h8, rfl, by rw [← hgy i h]; rfl, h27, h28⟩
    ·have h := of_decide_eq_false h
     simp -dsimp only [go_sem, h6, h28]
     exact ⟨rfl, h5, h6, h7, h8, rfl, by rw [hhy i (by omega)]; rfl, h27, h28⟩
    ·rintro σ H3 ⟨rfl, h5, h6, h7, h8, h9, h10, h27, h28⟩
     have hc := lowSum_carry x y i
     have hl : i < (addFill x y (dx.length + 1) i).length := by unfold addFill; rw [digsN_len]; omega
     have hi2 : i < dx.length + 1 := by omega
     obtain ⟨s1, s2⟩ := addFill_succ x y (dx.length + 1) i hi2
     have e7 : IntKind.i64.wrap ((i : Int) + 1) = ((i + 1 : Nat) : Int) := by rw [w64 (by omega) (by omega)]; omega
     simp -dsimp only [go_sem, h5, h6, h7, h8, h9, h10, h27, h28, q0u hp, wblk, q0k _ _ hi, hi, hi2, q8n _ _ _ _ _ hc, q0p _ _ _ hl, hl, e7, hH]
     refine next (i + 1) (by show dx.length - (i + 1) < dx.length - i; omega) ⟨hi, ?_, h5, h6, h7, ?_, h27, rfl⟩
     ·rw [s1, hgx i hi]
     ·rw [s2, ← hgx i hi]; rfl
   ·have : i = dx.length := by omega
    subst this
    have hl : dx.length < (addFill x y (dx.length + 1) dx.length).length := by unfold addFill; rw [digsN_len]; omega
    simp -dsimp only [go_sem, h5, h6, h7, h8, h27, h28, wblk, q0p _ _ _ hl, hl, hH, addFill_last x y _ hxl hyl]
    refine ⟨Nat.lt_succ_self _, ?_⟩
    have := c_pack H.length (H' ++ [wblk (digsN (dx.length + 1) (x + y))]) H'.length (digsN (dx.length + 1) (x + y)) (dx.length + 1) (by rw [digsN_len]; omega) (by omega) (digsN_lt _ _) (by simp -dsimp only [go_sem, wblk])
    rw [List.take_of_length_le (by rw [digsN_len]; exact Nat.le_refl _), wval_digsN_of_lt (by rw [Nat.pow_succ]; simp only [B64] at *; omega), hab] at this
    rw [hab]
    simp only [wblk] at this
    simp -dsimp only [go_sem, this]
theorem c_NatSub (lk : Nat) (H : Heap) (a b : Nat) (hab : b ≤ a) (ha : (q0b a).length < 100000000) : q0c prog md lk 207 [.string (mkS (q0b a)), .string (mkS (q0b b))] H = some (.string (mkS (q0b (a - b))), H) := by
 refine q0a rfl Tryz.func207 rfl rfl ?_
 have hbl : (q0b b).length ≤ (q0b a).length := q9t hab
 have hla := digs_len_bytes a
 have hA := fun lk => q6j lk H (q0b a) (by omega)
 have hB := fun lk => q6j lk (H ++ [wblk (digs a)]) (q0b b) (by omega)
 simp only [q1d] at hA hB
 simp -dsimp only [go_sem, hA, hB]
 have hxl := lt_pow_digs a
 have hgx := digs_get a
 have hgy := digs_get b
 have hhy := fun i => high_zero b i 0
 have hdd := digsN_digs a
 generalize digs a = dx at *
 generalize digs b = dy at *
 refine q0h (m := fun i => dx.length - i) (I := fun i σ H2 => i ≤ dx.length ∧ H2 = H ++ [wblk (subFill a b dx.length i), wblk dy] ∧ σ 5 = .slice (some ⟨H.length, 0, none⟩) dx.length dx.length ∧ σ 6 = .slice (some ⟨H.length + 1, 0, none⟩) dy.length dy.length ∧ σ 7 = .int .u64 ((borrow a b i : Nat) : Int) ∧ σ 15 = .int .i64 (dx.length : Int) ∧ σ 16 = .int .i64 (i : Int)) 0 ?_ ?_
 ·refine ⟨Nat.zero_le _, ?_, rfl, rfl, ?_, rfl, rfl⟩
  ·rw [subFill_zero, hdd]
  ·simp [borrow, Nat.mod_one, upd]
 ·rintro i σ H2 ⟨h1, rfl, h5, h6, h7, h15, h16⟩
  simp -dsimp only [go_sem, h15, h16]
  refine q0y (fun hi => ?_) (fun hi => ?_)
  ·simp -dsimp only [go_sem, h6, h16]
   refine w0q (fun σ H3 => H3 = H ++ [wblk (subFill a b dx.length i), wblk dy] ∧ σ 5 = .slice (some ⟨H.length, 0, none⟩) dx.length dx.length ∧ σ 6 = .slice (some ⟨H.length + 1, 0, none⟩) dy.length dy.length ∧ σ 7 = .int .u64 ((borrow a b i : Nat) : Int) ∧ σ 8 = .int .i64 (i : Int) ∧ σ 9 = .int .u64 ((b / B64 ^ i % B64 : Nat) : Int) ∧ σ 15 = .int .i64 (dx.length : Int) ∧ σ 16 = .int .i64 (i : Int)) (fun h => ?_) (fun h => ?_) ?_
   ·have h := of_decide_eq_true h
    simp -dsimp only [go_sem, h6, h16, wblk, q0k _ _ h, h]
    exact ⟨rfl, h5, h6, h7, rfl, by rw [← hgy i h]; rfl, h15, h16⟩
   ·have h := of_decide_eq_false h
    simp -dsimp only [go_sem, h6, h16]
    exact ⟨rfl, h5, h6, h7, rfl, by rw [hhy i (by omega)]; rfl, h15, h16⟩
   ·rintro σ H3 ⟨rfl, h5, h6, h7, h8, h9, h15, h16⟩
    have hc := borrow_le a b i
    have hl : i < (subFill a b dx.length i).length := by unfold subFill; rw [digsN_len]; exact hi
    obtain ⟨s1, s2⟩ := subFill_succ a b dx.length i hi
    have hg : (subFill a b dx.length i)[i] = a / B64 ^ i % B64 := subFill_get a b dx.length i hi hl
    have e7 : IntKind.i64.wrap ((i : Int) + 1) = ((i + 1 : Nat) : Int) := by rw [w64 (by omega) (by omega)]; omega
    simp -dsimp only [go_sem, h5, h6, h7, h8, h9, h15, h16, wblk, q0k _ _ hl, hi, c_Sub64 _ _ _ _ _ (Nat.mod_lt _ (by decide)) hc, q0p _ _ _ hl, hl, e7, hg]
    refine next (i + 1) (by show dx.length - (i + 1) < dx.length - i; omega) ⟨hi, ?_, h5, h6, ?_, h15, rfl⟩
    ·rw [s1]
    ·rw [s2]; rfl
  ·have : i = dx.length := by omega
   subst this
   have := c_pack H.length (H ++ [wblk (digsN dx.length (a - b)), wblk dy]) H.length (digsN dx.length (a - b)) dx.length (by rw [digsN_len]; omega) (by omega) (digsN_lt _ _) (by simp -dsimp only [go_sem, wblk])
   rw [List.take_of_length_le (by rw [digsN_len]; exact Nat.le_refl _), wval_digsN_of_lt (by omega)] at this
   simp -dsimp only [go_sem, h5, h6, h7, h15, h16, subFill_last a b _ hxl hab, this]
theorem c_Mul64 (lk : Nat) (H : Heap) (x y : Nat) (hx : x < B64) (hy : y < B64) : q0c prog md lk 231 [.int .u64 (x : Int), .int .u64 (y : Int)] H = some (.tuple #[.int .u64 ((x * y / B64 : Nat) : Int), .int .u64 ((x * y % B64 : Nat) : Int)], H) := by
 refine q0a rfl Tryz.func231 rfl rfl ?_
 simp -dsimp only [go_sem, q7k _ hx, q7k _ hy, mask32m, shr32, q7p, q2x]
 obtain ⟨h0, h1, h2, h3, h4⟩ := mul_parts x y hx hy
 refine congrArg (fun n : Nat => Value.tuple #[.int .u64 (n : Int), .int .u64 ((x * y % B64 : Nat) : Int)]) ?_
 simp only [B64] at *
 rw [h0]
 generalize x / 4294967296 * (y / 4294967296) = d at *
 generalize x / 4294967296 * (y % 4294967296) = b at *
 generalize x % 4294967296 * (y / 4294967296) = c at *
 generalize x % 4294967296 * (y % 4294967296) = a at *
 clear h0
 omega
theorem mul_words (p z c : Nat) (hp : p ≤ 340282366920938463426481119284349108225) (hz : z < B64) (hc : c < B64) :
  ((p % B64 + z + 0) % B64 + c + 0) % B64 = (p + z + c) % B64 ∧ ((p / B64 + (p % B64 + z + 0) / B64) % B64 + ((p % B64 + z + 0) % B64 + c + 0) / B64) % B64 = (p + z + c) / B64 := by
 simp only [B64] at *; omega
theorem mul_le_top {a b : Nat} (ha : a < B64) (hb : b < B64) : a * b ≤ 340282366920938463426481119284349108225 := by
 have : a * b ≤ 18446744073709551615 * 18446744073709551615 := Nat.mul_le_mul (by simp only [B64] at ha; omega) (by simp only [B64] at hb; omega)
 exact this
theorem c_mulWords (lk : Nat) (H : Heap) (x y p q : Nat) (hx : (digs x).length < 500000000) (hy : (digs y).length < 500000000) (hp : q0e H p = some (wblk (digs x))) (hq : q0e H q = some (wblk (digs y))) :
  q0c prog md lk 211 [.slice (some ⟨p, 0, none⟩) (digs x).length (digs x).length, .slice (some ⟨q, 0, none⟩) (digs y).length (digs y).length] H = some (.slice (some ⟨H.length, 0, none⟩) (digs (x * y)).length (digs (x * y)).length, H ++ [wblk (digs (x * y))]) := by
 refine q4x rfl Tryz.func211 rfl ?_
 have hxl := lt_pow_digs x
 have hyl := lt_pow_digs y
 have hgx := digs_get x
 have hgy := digs_get y
 have hwx := digs_lt x
 have hwy := digs_lt y
 generalize digs x = dx at *
 generalize digs y = dy at *
 have e1 : IntKind.i64.wrap ((dx.length : Int) + (dy.length : Int)) = ((dx.length + dy.length : Nat) : Int) := by rw [w64 (by omega) (by omega)]; omega
 simp -dsimp only [go_sem, e1]
 refine ⟨by omega, ?_⟩
 refine q0h (m := fun i => dx.length - i) (I := fun i σ H2 => i ≤ dx.length ∧ H2 = H ++ [wblk (digsN (dx.length + dy.length) (x % B64 ^ i * y))] ∧ σ 1 = .slice (some ⟨q, 0, none⟩) dy.length dy.length ∧ σ 5 = .slice (some ⟨H.length, 0, none⟩) (dx.length + dy.length) (dx.length + dy.length) ∧ σ 20 = .slice (some ⟨p, 0, none⟩) dx.length dx.length ∧ σ 21 = .int .i64 (dx.length : Int) ∧ σ 22 = .int .i64 (i : Int)) 0 ?_ ?_
 ·refine ⟨Nat.zero_le _, ?_, rfl, rfl, rfl, rfl, rfl⟩
  rw [Nat.pow_zero, Nat.mod_one, Nat.zero_mul, digsN_zero, q3j]; rfl
 ·rintro i σ H2 ⟨h1, rfl, h1', h5, h20, h21, h22⟩
  simp -dsimp only [go_sem, h21, h22]
  refine q0y (fun hi => ?_) (fun hi => ?_)
  ·simp -dsimp only [go_sem, h1', h20, h22, q0u hp, wblk, q0k _ _ hi, hi]
   refine q0h (m := fun j => dy.length - j) (I := fun j σ H2 => ∃ N c, j ≤ dy.length ∧ Row x y i j N c ∧ H2 = H ++ [wblk (digsN (dx.length + dy.length) N)] ∧ σ 1 = .slice (some ⟨q, 0, none⟩) dy.length dy.length ∧ σ 5 = .slice (some ⟨H.length, 0, none⟩) (dx.length + dy.length) (dx.length + dy.length) ∧ σ 6 = .int .i64 (i : Int) ∧ σ 7 = .int .u64 ((dx[i] : Nat) : Int) ∧ σ 8 = .int .u64 (c : Int) ∧ σ 20 = .slice (some ⟨p, 0, none⟩) dx.length dx.length ∧ σ 21 = .int .i64 (dx.length : Int) ∧ σ 22 = .int .i64 (i : Int) ∧ σ 27 = .slice (some ⟨q, 0, none⟩) dy.length dy.length ∧ σ 28 = .int .i64 (dy.length : Int) ∧ σ 29 = .int .i64 (j : Int)) 0 ?_ ?_
   ·exact ⟨_, _, Nat.zero_le _, row_zero x y i, rfl, h1', h5, rfl, rfl, rfl, h20, h21, h22, rfl, rfl, rfl⟩
   ·rintro j σ H2 ⟨N, c, h1, hr, rfl, h1', h5, h6, h7, h8, h20, h21, h22, h27, h28, h29⟩
    have hxi : dx[i] < B64 := hwx _ (List.getElem_mem hi)
    simp -dsimp only [go_sem, h28, h29]
    refine q0y (fun hj => ?_) (fun hj => ?_)
    ·have hyj : dy[j] < B64 := hwy _ (List.getElem_mem hj)
     have hm : i + j < dx.length + dy.length := by omega
     have hz : N / B64 ^ (i + j) % B64 < B64 := Nat.mod_lt _ (by decide)
     have hl : i + j < (digsN (dx.length + dy.length) N).length := by rw [digsN_len]; exact hm
     have hg : (digsN (dx.length + dy.length) N)[i + j] = N / B64 ^ (i + j) % B64 := (List.getElem?_eq_some_iff.1 (digsN_get _ N _ hm)).2
     have hle := mul_le_top hxi hyj
     obtain ⟨m1, m2⟩ := mul_words _ _ _ hle hz hr.2.2
     have e7 : IntKind.i64.wrap ((j : Int) + 1) = ((j + 1 : Nat) : Int) := by rw [w64 (by omega) (by omega)]; omega
     have e8 : IntKind.i64.wrap ((i : Int) + (j : Int)) = ((i + j : Nat) : Int) := by rw [w64 (by omega) (by omega)]; omega
     have a1 := q8n H.length (H ++ [wblk (digsN (dx.length + dy.length) N)]) (dx[i] * dy[j] % B64) (N / B64 ^ (i + j) % B64) 0 (by omega)
     have a2 := q8n H.length (H ++ [wblk (digsN (dx.length + dy.length) N)]) ((dx[i] * dy[j] % B64 + N / B64 ^ (i + j) % B64 + 0) % B64) c 0 (by omega)
     simp only [wblk, Int.natCast_zero, Nat.add_zero] at a1 a2 m1 m2
     rw [m1] at a2
     obtain ⟨N', n1, n2⟩ := row_step x y (dx.length + dy.length) i j N c hr hm
     rw [← hgx i hi, ← hgy j hj] at n1 n2
     simp -dsimp only [go_sem, h1', h5, h6, h7, h8, h27, h28, h29, q0u hq, wblk, q0k _ _ hj, hj, c_Mul64 _ _ _ _ hxi hyj, e7, e8, hl, hm, q0k _ _ hl, hg, a1, a2, q2x, q0p _ _ _ hl, digsN_len]
     refine next (j + 1) (by show dy.length - (j + 1) < dy.length - j; omega) ⟨N', _, hj, n2, ?_, h1', h5, h6, h7, ?_, h20, h21, h22, h27, h28, rfl⟩
     ·rw [n1]
     ·rw [← m2]; rfl
    ·have : j = dy.length := by omega
     subst this
     have hm : i + dy.length < dx.length + dy.length := by omega
     have hl : i + dy.length < (digsN (dx.length + dy.length) N).length := by rw [digsN_len]; exact hm
     have e7 : IntKind.i64.wrap ((i : Int) + 1) = ((i + 1 : Nat) : Int) := by rw [w64 (by omega) (by omega)]; omega
     have e8 : IntKind.i64.wrap ((i : Int) + (dy.length : Int)) = ((i + dy.length : Nat) : Int) := by rw [w64 (by omega) (by omega)]; omega
     simp -dsimp only [go_sem, h1', h5, h6, h7, h8, h22, h28, h29, e7, e8, hl, hm, wblk, q0p _ _ _ hl, digsN_len]
     refine next (i + 1) (by show dx.length - (i + 1) < dx.length - i; omega) ⟨hi, ?_, h1', h5, h20, h21, rfl⟩
     rw [← row_last x y (dx.length + dy.length) i N c dy.length hyl hr hm]
  ·have : i = dx.length := by omega
   subst this
   rw [Nat.mod_eq_of_lt hxl] at *
   have hxy : x * y < B64 ^ (dx.length + dy.length) := by rw [Nat.pow_add]; exact Nat.mul_lt_mul'' hxl hyl
   have ht := w3s H.length (H ++ [wblk (digsN (dx.length + dy.length) (x * y))]) H.length (digsN (dx.length + dy.length) (x * y)) (dx.length + dy.length) (by rw [digsN_len]; omega) (by omega) (by simp -dsimp only [go_sem, wblk])
   have e8 := trim_eq _ (digsN_lt (dx.length + dy.length) (x * y))
   have e9 := trim_len _ (digsN_lt (dx.length + dy.length) (x * y))
   rw [wval_digsN_of_lt hxy, digsN_len] at e8 e9
   simp -dsimp only [go_sem, h5, h20, h21, h22, ht]
   have := w0u (H := H ++ [wblk (digsN (dx.length + dy.length) (x * y))]) (n0 := H.length) (b := H.length) (ws := digsN (dx.length + dy.length) (x * y)) (n := q1h (digsN (dx.length + dy.length) (x * y)) (dx.length + dy.length)) (Nat.le_refl _) (by simp -dsimp only [go_sem, wblk]) (by rw [digsN_len]; exact q2v _ _)
   rw [this, e8, e9]
theorem w2c (lk : Nat) (H : Heap) (a b : Nat) (ha : (q0b a).length < 100000000) (hb : (q0b b).length < 100000000) : q0c prog md lk 158 [.string (mkS (q0b a)), .string (mkS (q0b b))] H = some (.string (mkS (q0b (a * b))), H) := by
 refine q0a rfl Tryz.func158 rfl rfl ?_
 have hla := digs_len_bytes a
 have hlb := digs_len_bytes b
 have hA := fun lk => q6j lk H (q0b a) (by omega)
 have hB := fun lk => q6j lk (H ++ [wblk (digs a)]) (q0b b) (by omega)
 have hM := fun lk => c_mulWords lk (H ++ [wblk (digs a), wblk (digs b)]) a b H.length (H.length + 1) (by omega) (by omega) (by simp -dsimp only [go_sem, wblk]) (by simp -dsimp only [go_sem, wblk])
 have hab : (digs (a * b)).length ≤ (digs a).length + (digs b).length := by
  apply digs_len; rw [Nat.pow_add]; exact Nat.mul_lt_mul'' (lt_pow_digs a) (lt_pow_digs b)
 have hP := fun lk => c_pack lk (H ++ [wblk (digs a), wblk (digs b), wblk (digs (a * b))]) (H.length + 2) (digs (a * b)) (digs (a * b)).length (Nat.le_refl _) (by omega) (digs_lt _) (by simp -dsimp only [go_sem, wblk])
 simp only [q1d, List.take_length, wval_digs] at hA hB hP
 simp -dsimp only [go_sem, hA, hB, hM, hP]

def blen (x : Nat) : Nat := if x = 0 then 0 else Nat.log2 x + 1
theorem len8 (L : List UInt8) (i : Nat) (h : i < 256) (h1 : (List.range 256).all (fun i => byt (mkS L) i == (blen i : Int)) = true) : byt (mkS L) i = (blen i : Int) :=
 eq_of_beq (List.all_eq_true.1 h1 i (List.mem_range.2 h))
theorem w3f (x k : Nat) (h : x / 2 ^ k ≠ 0) : blen x = k + blen (x / 2 ^ k) := by
 have hx : x ≠ 0 := by rintro rfl; simp at h
 unfold blen
 rw [if_neg hx, if_neg h]
 have hp : 0 < 2 ^ k := Nat.pow_pos (by decide)
 obtain ⟨h1, h2⟩ := (Nat.log2_eq_iff h).1 rfl
 have : x.log2 = k + (x / 2 ^ k).log2 := by
  rw [Nat.log2_eq_iff hx]
  constructor
  ·rw [Nat.pow_add, Nat.mul_comm]
   exact (Nat.le_div_iff_mul_le hp).1 h1
  ·rw [Nat.add_assoc, Nat.pow_add, Nat.mul_comm]
   exact (Nat.div_lt_iff_lt_mul hp).1 h2
 omega
theorem c_Len64 (lk : Nat) (H : Heap) (x : Nat) (hx : x < B64) : q0c prog md lk 240 [.int .u64 (x : Int)] H = some (.int .i64 ((blen x : Nat) : Int), H) := by
 refine q0a rfl Tryz.func240 rfl rfl ?_
 simp -dsimp only [go_sem]
 refine w0q (fun σ H' => ∃ y k : Nat, H' = H ∧ σ 0 = .int .u64 (y : Int) ∧ σ 2 = .int .i64 (k : Int) ∧ y < 4294967296 ∧ k ≤ 32 ∧ blen x = k + blen y) (fun h => ?_) (fun h => ?_) ?_
 ·have h := of_decide_eq_true h
  simp -dsimp only [go_sem, shr32]
  refine ⟨x / 4294967296, 32, rfl, rfl, rfl, ?_, by decide, w3f x 32 ?_⟩
  ·simp only [B64] at hx; omega
  ·simp only [Nat.reducePow]; omega
 ·have h := of_decide_eq_false h
  simp -dsimp only [go_sem]
  exact ⟨x, 0, rfl, rfl, rfl, by omega, by decide, by omega⟩
 rintro σ H' ⟨x1, k1, rfl, h0, h2, b1, b2, hb⟩
 simp -dsimp only [go_sem, h0]
 refine w0q (fun σ H2 => ∃ y k : Nat, H2 = H' ∧ σ 0 = .int .u64 (y : Int) ∧ σ 2 = .int .i64 (k : Int) ∧ y < 65536 ∧ k ≤ 48 ∧ blen x = k + blen y) (fun h => ?_) (fun h => ?_) ?_
 ·have h := of_decide_eq_true h
  have e : IntKind.i64.wrap ((k1 : Int) + 16) = ((k1 + 16 : Nat) : Int) := by rw [w64 (by omega) (by omega)]; omega
  simp -dsimp only [go_sem, h0, h2, shr16, e]
  refine ⟨x1 / 65536, k1 + 16, rfl, rfl, rfl, by omega, by omega, ?_⟩
  rw [hb, w3f x1 16 (by simp only [Nat.reducePow]; omega)]; simp only [Nat.reducePow]; omega
 ·have h := of_decide_eq_false h
  simp -dsimp only [go_sem]
  exact ⟨x1, k1, rfl, h0, h2, by omega, by omega, hb⟩
 rintro σ H2 ⟨x2, k2, rfl, h0, h2, b3, b4, hb⟩
 simp -dsimp only [go_sem, h0]
 refine w0q (fun σ H3 => ∃ y k : Nat, H3 = H2 ∧ σ 0 = .int .u64 (y : Int) ∧ σ 2 = .int .i64 (k : Int) ∧ y < 256 ∧ k ≤ 56 ∧ blen x = k + blen y) (fun h => ?_) (fun h => ?_) ?_
 ·have h := of_decide_eq_true h
  have e : IntKind.i64.wrap ((k2 : Int) + 8) = ((k2 + 8 : Nat) : Int) := by rw [w64 (by omega) (by omega)]; omega
  simp -dsimp only [go_sem, h0, h2, shr8, e]
  refine ⟨x2 / 256, k2 + 8, rfl, rfl, rfl, by omega, by omega, ?_⟩
  rw [hb, w3f x2 8 (by simp only [Nat.reducePow]; omega)]; simp only [Nat.reducePow]; omega
 ·have h := of_decide_eq_false h
  simp -dsimp only [go_sem]
  exact ⟨x2, k2, rfl, h0, h2, by omega, by omega, hb⟩
 rintro σ H3 ⟨x3, k3, rfl, h0, h2, b5, b6, hb⟩
 have e1 : IntKind.u8.wrap (x3 : Int) = (x3 : Int) := by rw [IntKind.wrap_u8]; omega
 have hb8 : blen x3 ≤ 8 := by
  unfold blen
  split
  ·omega
  ·rename_i hz
   have : x3.log2 < 8 := (Nat.log2_lt hz).2 (by omega)
   omega
 have e2 : IntKind.i64.wrap ((blen x3 : Nat) : Int) = (blen x3 : Int) := by rw [w64 (by omega) (by omega)]
 have e3 : IntKind.i64.wrap ((k3 : Int) + (blen x3 : Int)) = ((k3 + blen x3 : Nat) : Int) := by rw [w64 (by omega) (by omega)]; omega
 simp -dsimp only [go_sem, h0, h2, e1, e2, e3, hb]
 refine ⟨Nat.lt_of_lt_of_eq b5 (by kernel_rfl), ?_⟩
 rw [len8 _ _ b5, e2, e3]
 kernel_rfl
theorem blen_le (x : Nat) (hx : x < B64) : blen x ≤ 64 := by
 unfold blen
 split
 ·omega
 ·rename_i hz
  have : x.log2 < 64 := (Nat.log2_lt hz).2 (by simpa using hx)
  omega
theorem q7m (lk : Nat) (H : Heap) (x : Nat) (hx : x < B64) : q0c prog md lk 237 [.int .u64 (x : Int)] H = some (.int .i64 ((64 - blen x : Nat) : Int), H) := by
 refine q0a rfl Tryz.func237 rfl rfl ?_
 have hb := blen_le x hx
 have e3 : IntKind.i64.wrap (64 - (blen x : Int)) = ((64 - blen x : Nat) : Int) := by rw [w64 (by omega) (by omega)]; omega
 simp -dsimp only [go_sem, c_Len64 _ _ _ hx, e3]
theorem blen_top (y : Nat) (h0 : y ≠ 0) (hy : y < B64) : 64 - blen y ≤ 63 ∧ y * 2 ^ (64 - blen y) < B64 ∧ B64 ≤ 2 * (y * 2 ^ (64 - blen y)) := by
 have hb := blen_le y hy
 have e : blen y = y.log2 + 1 := by unfold blen; rw [if_neg h0]
 obtain ⟨h1, h2⟩ := (Nat.log2_eq_iff h0).1 rfl
 rw [← e] at h2
 have hB : B64 = 2 ^ blen y * 2 ^ (64 - blen y) := by rw [← Nat.pow_add, show blen y + (64 - blen y) = 64 by omega]
 have hp : 0 < 2 ^ (64 - blen y) := Nat.pow_pos (by decide)
 refine ⟨by omega, ?_, ?_⟩
 ·conv => rhs; rw [hB]
  exact Nat.mul_lt_mul_of_pos_right h2 hp
 ·rw [← Nat.mul_assoc]
  conv => lhs; rw [hB]
  apply Nat.mul_le_mul_right
  rw [e, Nat.pow_succ]; omega
theorem c_Div64 (lk : Nat) (H : Heap) (u l y : Nat) (hu : u < y) (hl : l < B64) (hy : y < B64) : q0c prog md lk 236 [.int .u64 (u : Int), .int .u64 (l : Int), .int .u64 (y : Int)] H = some (.tuple #[.int .u64 (((u * B64 + l) / y : Nat) : Int), .int .u64 (((u * B64 + l) % y : Nat) : Int)], H) := by
 refine q0a rfl Tryz.func236 rfl rfl ?_
 have z1 : ((y : Int) = 0) = False := by simp; omega
 have z2 : (y ≤ u) = False := by simp; omega
 simp -dsimp only [go_sem, z1, z2]
 refine q0y (fun h0 => ?_) (fun h0 => ?_)
 ·have : u = 0 := by omega
  subst this
  simp -dsimp only [go_sem, z1, u64quo _ _ hl, u64rem, Nat.zero_mul]
  omega
 ·obtain ⟨hs, hY, hY2⟩ := blen_top y (by omega) hy
  have hbl : 1 ≤ blen y := by unfold blen; rw [if_neg (by omega)]; omega
  have hc := q7m H.length H y hy
  generalize 64 - blen y = s at hs hY hY2 hc
  obtain ⟨hor, hU, hN⟩ := shift_two u l y s hu hl hs
  have es : IntKind.u64.wrap (s : Int) = (s : Int) := u64n (by omega)
  have ms : min s 64 = s := Nat.min_eq_left (by omega)
  have e64 : IntKind.u64.wrap (64 - (s : Int)) = ((64 - s : Nat) : Int) := by rw [IntKind.wrap_u64]; omega
  have m64 : min (64 - s) 64 = 64 - s := Nat.min_eq_left (by omega)
  have eY : IntKind.u64.wrap ((y : Int) * 2 ^ s) = ((y * 2 ^ s : Nat) : Int) := by rw [u64shl, Nat.mod_eq_of_lt hY]
  have huY : u * 2 ^ s < 18446744073709551616 := Nat.lt_trans (Nat.lt_of_le_of_lt (Nat.le_add_right _ _) hU) hY
  have eU : IntKind.u64.wrap ((u : Int) * 2 ^ s) = ((u * 2 ^ s : Nat) : Int) := by rw [u64shl, Nat.mod_eq_of_lt huY]
  have eL : IntKind.u64.wrap ((l : Int) * 2 ^ s) = ((l * 2 ^ s % B64 : Nat) : Int) := by rw [u64shl]
  have eor : q6t .or .u64 ((u * 2 ^ s : Nat) : Int) ((l / 2 ^ (64 - s) : Nat) : Int) = some (.int .u64 ((u * 2 ^ s + l / 2 ^ (64 - s) : Nat) : Int)) := by
   rw [w4n huY (Nat.lt_of_le_of_lt (Nat.div_le_self _ _) hl), hor]
  have hLB : l * 2 ^ s % B64 < B64 := Nat.mod_lt _ (by decide)
  generalize hYY : y * 2 ^ s = Y at *
  generalize u * 2 ^ s + l / 2 ^ (64 - s) = U at *
  generalize l * 2 ^ s % B64 = L at *
  have hUB : U < B64 := by omega
  have hy1 : 0 < Y / 4294967296 := by simp only [B64] at *; omega
  have hb2 : 4294967296 ≤ 2 * (Y / 4294967296) := by simp only [B64] at *; omega
  have hyy : Y = Y / 4294967296 * 4294967296 + Y % 4294967296 := by omega
  have hy0 : Y % 4294967296 < 4294967296 := Nat.mod_lt _ (by decide)
  have hy1b : Y / 4294967296 < 4294967296 := by simp only [B64] at *; omega
  have hL1 : L / 4294967296 < 4294967296 := by simp only [B64] at *; omega
  have hL0 : L % 4294967296 < 4294967296 := Nat.mod_lt _ (by decide)
  have mY := q7k Y hY
  have mL := q7k L hLB
  have hLL : L = L / 4294967296 * 4294967296 + L % 4294967296 := by omega
  generalize hYq : Y / 4294967296 = y1 at *
  generalize Y % 4294967296 = y0 at *
  generalize hLq : L / 4294967296 = L1 at *
  generalize L % 4294967296 = L0 at *
  have z3 : ((y1 : Int) = 0) = False := by simp; omega
  have hq1 := Nat.div_add_mod U y1
  have erh : IntKind.u64.wrap ((U : Int) - IntKind.u64.wrap (((U / y1 : Nat) : Int) * (y1 : Int))) = ((U % y1 : Nat) : Int) := by
   rw [Nat.mul_comm] at hq1
   rw [q7p, Nat.mod_eq_of_lt (by simp only [B64] at *; omega), u64sub _ _ (by simp only [B64] at *; omega)]
   congr 1; simp only [B64] at *; omega
  simp -dsimp only [go_sem, hc, es, ms, eY, shr32, mY, eU, e64, m64, u64shr, eor, eL, mL, z3, u64quo _ _ hUB, erh, hYq, hLq]
  refine ⟨by omega, ?_⟩
  have hyp : 0 < y1 * 4294967296 + y0 := by omega
  obtain ⟨Q1, hQ1⟩ : ∃ Q1, Q1 = (U * 4294967296 + L1) / Y := ⟨_, rfl⟩
  obtain ⟨R, hR⟩ : ∃ R, R = (U * 4294967296 + L1) % Y := ⟨_, rfl⟩
  obtain ⟨Q0, hQ0⟩ : ∃ Q0, Q0 = (R * 4294967296 + L0) / Y := ⟨_, rfl⟩
  refine q8u (fun σ H' => H = H' ∧ σ 2 = .int .u64 (Y : Int) ∧ σ 8 = .int .u64 (s : Int) ∧ σ 9 = .int .u64 (y1 : Int) ∧ σ 10 = .int .u64 (y0 : Int) ∧ σ 11 = .int .u64 (U : Int) ∧ σ 13 = .int .u64 (L1 : Int) ∧ σ 14 = .int .u64 (L0 : Int) ∧ σ 15 = .int .u64 (Q1 : Int)) ?_ ?_
  ·refine q0h (m := id) (I := fun q σ H' => ∃ r, Guess 4294967296 U L1 y1 y0 q r ∧ r < 4294967296 ∧ H = H' ∧ σ 2 = .int .u64 (Y : Int) ∧ σ 8 = .int .u64 (s : Int) ∧ σ 9 = .int .u64 (y1 : Int) ∧ σ 10 = .int .u64 (y0 : Int) ∧ σ 11 = .int .u64 (U : Int) ∧ σ 13 = .int .u64 (L1 : Int) ∧ σ 14 = .int .u64 (L0 : Int) ∧ σ 15 = .int .u64 (q : Int) ∧ σ 16 = .int .u64 (r : Int)) (U / y1) ?_ ?_
   ·exact ⟨U % y1, Guess.first hy1 hb2 hL1 hy0 (by omega), Nat.lt_of_lt_of_le (Nat.mod_lt _ hy1) (by omega), rfl, rfl, rfl, rfl, rfl, rfl, rfl, rfl, rfl, rfl⟩
   ·rintro q σ H' ⟨r, hg, hr, rfl, h2, h8, h9, h10, h11, h13, h14, h15, h16⟩
    have hqb := hg.le
    have em : IntKind.u64.wrap (IntKind.u64.wrap (4294967296 * (r : Int)) + (L1 : Int)) = ((4294967296 * r + L1 : Nat) : Int) := by
     rw [shl32', Nat.mod_eq_of_lt (by omega), q2x, Nat.mod_eq_of_lt (by omega)]
    have eq1 : 0 < q → IntKind.u64.wrap ((q : Int) - 1) = ((q - 1 : Nat) : Int) := by intro h; rw [IntKind.wrap_u64]; omega
    have er1 : IntKind.u64.wrap ((r : Int) + (y1 : Int)) = ((r + y1 : Nat) : Int) := by rw [q2x, Nat.mod_eq_of_lt (by omega)]
    have hdec : (4294967296 ≤ q ∨ 4294967296 * r + L1 < q * y0) → 0 < q ∧ Guess 4294967296 U L1 y1 y0 (q - 1) (r + y1) := fun ht => hg.dec hyp (by omega) hL1 ht
    simp -dsimp only [go_sem, h15]
    refine q0y (fun hq => ?_) (fun hq => ?_)
    ·have ht : 4294967296 ≤ q := by omega
     obtain ⟨hq0, hg'⟩ := hdec (Or.inl ht)
     simp -dsimp only [go_sem, h2, h8, h9, h10, h11, h13, h14, h15, h16, hq, eq1 hq0, er1]
     refine q0y (fun hbig => ?_) (fun hbig => ?_)
     ·simp -dsimp only [go_sem]
      refine ⟨rfl, h2, h8, h9, h10, h11, h13, h14, ?_⟩
      rw [hQ1, hyy]
      rw [← hg'.big hyp hy0 (by omega) (by omega)]
      rfl
     ·simp -dsimp only [go_sem]
      exact next (q - 1) (by show q - 1 < q; omega) ⟨r + y1, hg', by omega, rfl, h2, h8, h9, h10, h11, h13, h14, rfl, rfl⟩
    ·have hqy : q * y0 < 18446744073709551616 := by
      have h1 : q * y0 ≤ 4294967295 * 4294967295 := Nat.mul_le_mul (by omega) (by omega)
      omega
     have eqy : IntKind.u64.wrap ((q : Int) * (y0 : Int)) = ((q * y0 : Nat) : Int) := by rw [q7p, Nat.mod_eq_of_lt hqy]
     simp -dsimp only [go_sem, h2, h8, h9, h10, h11, h13, h14, h15, h16, hq, eqy, em]
     refine q0y (fun ht => ?_) (fun ht => ?_)
     ·obtain ⟨hq0, hg'⟩ := hdec (Or.inr ht)
      simp -dsimp only [go_sem, h2, h8, h9, h10, h11, h13, h14, h15, h16, hq, eq1 hq0, er1]
      refine q0y (fun hbig => ?_) (fun hbig => ?_)
      ·simp -dsimp only [go_sem]
       refine ⟨rfl, h2, h8, h9, h10, h11, h13, h14, ?_⟩
       rw [hQ1, hyy]
       rw [← hg'.big hyp hy0 (by omega) (by omega)]
       rfl
      ·simp -dsimp only [go_sem]
       exact next (q - 1) (by show q - 1 < q; omega) ⟨r + y1, hg', by omega, rfl, h2, h8, h9, h10, h11, h13, h14, rfl, rfl⟩
     ·simp -dsimp only [go_sem]
      refine ⟨rfl, h2, h8, h9, h10, h11, h13, h14, ?_⟩
      rw [hQ1, hyy, ← hg.fail hyp (by omega)]
      exact h15
  rintro σ H' ⟨rfl, h2, h8, h9, h10, h11, h13, h14, h15⟩
  have hQ1b : Q1 < 4294967296 := by rw [hQ1]; exact quo_lt hU hL1
  have hr21 : R < Y := by rw [hR]; exact Nat.mod_lt _ (by omega)
  have e21 : IntKind.u64.wrap (IntKind.u64.wrap (IntKind.u64.wrap ((U : Int) * 4294967296) + (L1 : Int)) - IntKind.u64.wrap ((Q1 : Int) * (Y : Int))) = (R : Int) := by
   rw [shl32, q2x, q7p, u64sub _ _ (Nat.le_of_lt (Nat.mod_lt _ (by decide)))]
   congr 1
   rw [hR]
   exact rest_mod (U * 4294967296 + L1) Y Q1 hQ1 hY (by omega) _ _ (by omega) (by omega) (Nat.mod_lt _ (by decide))
  have hRB : R < B64 := by omega
  have hq2 := Nat.div_add_mod R y1
  have erh2 : IntKind.u64.wrap ((R : Int) - IntKind.u64.wrap (((R / y1 : Nat) : Int) * (y1 : Int))) = ((R % y1 : Nat) : Int) := by
   rw [Nat.mul_comm] at hq2
   rw [q7p, Nat.mod_eq_of_lt (by simp only [B64] at *; omega), u64sub _ _ (by simp only [B64] at *; omega)]
   congr 1; simp only [B64] at *; omega
  simp -dsimp only [go_sem, h2, h8, h9, h10, h11, h13, h14, h15, e21, z3, u64quo _ _ hRB, erh2]
  refine ⟨by omega, ?_⟩
  refine q8u (fun σ H' => H = H' ∧ σ 2 = .int .u64 (Y : Int) ∧ σ 8 = .int .u64 (s : Int) ∧ σ 9 = .int .u64 (y1 : Int) ∧ σ 10 = .int .u64 (y0 : Int) ∧ σ 13 = .int .u64 (L1 : Int) ∧ σ 14 = .int .u64 (L0 : Int) ∧ σ 15 = .int .u64 (Q1 : Int) ∧ σ 17 = .int .u64 (R : Int) ∧ σ 18 = .int .u64 (Q0 : Int)) ?_ ?_
  ·refine q0h (m := id) (I := fun q σ H' => ∃ r, Guess 4294967296 R L0 y1 y0 q r ∧ r < 4294967296 ∧ H = H' ∧ σ 2 = .int .u64 (Y : Int) ∧ σ 8 = .int .u64 (s : Int) ∧ σ 9 = .int .u64 (y1 : Int) ∧ σ 10 = .int .u64 (y0 : Int) ∧ σ 13 = .int .u64 (L1 : Int) ∧ σ 14 = .int .u64 (L0 : Int) ∧ σ 15 = .int .u64 (Q1 : Int) ∧ σ 17 = .int .u64 (R : Int) ∧ σ 18 = .int .u64 (q : Int) ∧ σ 16 = .int .u64 (r : Int)) (R / y1) ?_ ?_
   ·exact ⟨R % y1, Guess.first hy1 hb2 hL0 hy0 (by omega), Nat.lt_of_lt_of_le (Nat.mod_lt _ hy1) (by omega), rfl, h2, h8, h9, h10, h13, h14, h15, rfl, rfl, rfl⟩
   ·rintro q σ H' ⟨r, hg, hr, rfl, h2, h8, h9, h10, h13, h14, h15, h17, h18, h16⟩
    have hqb := hg.le
    have em : IntKind.u64.wrap (IntKind.u64.wrap (4294967296 * (r : Int)) + (L0 : Int)) = ((4294967296 * r + L0 : Nat) : Int) := by
     rw [shl32', Nat.mod_eq_of_lt (by omega), q2x, Nat.mod_eq_of_lt (by omega)]
    have eq1 : 0 < q → IntKind.u64.wrap ((q : Int) - 1) = ((q - 1 : Nat) : Int) := by intro h; rw [IntKind.wrap_u64]; omega
    have er1 : IntKind.u64.wrap ((r : Int) + (y1 : Int)) = ((r + y1 : Nat) : Int) := by rw [q2x, Nat.mod_eq_of_lt (by omega)]
    have hdec : (4294967296 ≤ q ∨ 4294967296 * r + L0 < q * y0) → 0 < q ∧ Guess 4294967296 R L0 y1 y0 (q - 1) (r + y1) := fun ht => hg.dec hyp (by omega) hL0 ht
    simp -dsimp only [go_sem, h18]
    refine q0y (fun hq => ?_) (fun hq => ?_)
    ·have ht : 4294967296 ≤ q := by omega
     obtain ⟨hq0, hg'⟩ := hdec (Or.inl ht)
     simp -dsimp only [go_sem, h2, h8, h9, h10, h13, h14, h15, h17, h18, h16, hq, eq1 hq0, er1]
     refine q0y (fun hbig => ?_) (fun hbig => ?_)
     ·simp -dsimp only [go_sem]
      refine ⟨rfl, h2, h8, h9, h10, h13, h14, h15, h17, ?_⟩
      rw [hQ0, hyy]
      rw [← hg'.big hyp hy0 (by omega) (by omega)]
      rfl
     ·simp -dsimp only [go_sem]
      exact next (q - 1) (by show q - 1 < q; omega) ⟨r + y1, hg', by omega, rfl, h2, h8, h9, h10, h13, h14, h15, h17, rfl, rfl⟩
    ·have hqy : q * y0 < 18446744073709551616 := by
      have h1 : q * y0 ≤ 4294967295 * 4294967295 := Nat.mul_le_mul (by omega) (by omega)
      omega
     have eqy : IntKind.u64.wrap ((q : Int) * (y0 : Int)) = ((q * y0 : Nat) : Int) := by rw [q7p, Nat.mod_eq_of_lt hqy]
     simp -dsimp only [go_sem, h2, h8, h9, h10, h13, h14, h15, h17, h18, h16, hq, eqy, em]
     refine q0y (fun ht => ?_) (fun ht => ?_)
     ·obtain ⟨hq0, hg'⟩ := hdec (Or.inr ht)
      simp -dsimp only [go_sem, h2, h8, h9, h10, h13, h14, h15, h17, h18, h16, hq, eq1 hq0, er1]
      refine q0y (fun hbig => ?_) (fun hbig => ?_)
      ·simp -dsimp only [go_sem]
       refine ⟨rfl, h2, h8, h9, h10, h13, h14, h15, h17, ?_⟩
       rw [hQ0, hyy]
       rw [← hg'.big hyp hy0 (by omega) (by omega)]
       rfl
      ·simp -dsimp only [go_sem]
       exact next (q - 1) (by show q - 1 < q; omega) ⟨r + y1, hg', by omega, rfl, h2, h8, h9, h10, h13, h14, h15, h17, rfl, rfl⟩
     ·simp -dsimp only [go_sem]
      refine ⟨rfl, h2, h8, h9, h10, h13, h14, h15, h17, ?_⟩
      rw [hQ0, hyy, ← hg.fail hyp (by omega)]
      exact h18
  rintro σ H' ⟨rfl, h2, h8, h9, h10, h13, h14, h15, h17, h18⟩
  have hN2 : (U * 4294967296 + L1) * 4294967296 + L0 = (u * B64 + l) * 2 ^ s := by
   refine Eq.trans (two_halves U L1 L0 L hLL) hN
  have hd1 : Q1 * 4294967296 + Q0 = (u * B64 + l) / y := by
   rw [hQ1, hQ0, hR, (w3c (U * 4294967296 + L1) 4294967296 L0 Y).1, hN2, ← hYY, Nat.mul_div_mul_right _ _ (Nat.pow_pos (by decide))]
  have hd2 : (R * 4294967296 + L0) % Y = (u * B64 + l) % y * 2 ^ s := by
   rw [hR, (w3c (U * 4294967296 + L1) 4294967296 L0 Y).2, hN2, ← hYY, Nat.mul_mod_mul_right]
  have hQ0b : Q0 < 4294967296 := by rw [hQ0]; exact quo_lt hr21 hL0
  have e3 : IntKind.u64.wrap (IntKind.u64.wrap ((Q1 : Int) * 4294967296) + (Q0 : Int)) = (((u * B64 + l) / y : Nat) : Int) := by
   rw [shl32, q2x, Nat.mod_eq_of_lt (a := Q1 * 4294967296) (by omega), Nat.mod_eq_of_lt (by omega), hd1]
  have e4 : IntKind.u64.wrap (IntKind.u64.wrap (IntKind.u64.wrap ((R : Int) * 4294967296) + (L0 : Int)) - IntKind.u64.wrap ((Q0 : Int) * (Y : Int))) = (((u * B64 + l) % y * 2 ^ s : Nat) : Int) := by
   rw [shl32, q2x, q7p, u64sub _ _ (Nat.le_of_lt (Nat.mod_lt _ (by decide)))]
   congr 1
   rw [← hd2]
   exact rest_mod (R * 4294967296 + L0) Y Q0 hQ0 hY (by omega) _ _ (by omega) (by omega) (Nat.mod_lt _ (by decide))
  simp -dsimp only [go_sem, h2, h8, h9, h10, h13, h14, h15, h17, h18, e3, e4, ms, u64shr, Nat.mul_div_cancel _ (Nat.pow_pos (n := s) (show 0 < 2 by decide))]
theorem div_step (x i : Nat) : x / B64 ^ i = x / B64 ^ (i + 1) * B64 + x / B64 ^ i % B64 := by
 rw [Nat.pow_succ, ← Nat.div_div_eq_div_mul]
 have := Nat.div_add_mod (x / B64 ^ i) B64
 rw [Nat.mul_comm] at this; exact this.symm
theorem w1n {x y M : Nat} (h : x / M < y / M) : x < y := by
 apply Nat.lt_of_not_le
 intro hle
 have := Nat.div_le_div_right (c := M) hle
 omega
theorem c_compareWords (lk : Nat) (H : Heap) (x y p q : Nat) (hx : (digs x).length < 1000000000) (hp : q0e H p = some (wblk (digs x))) (hq : q0e H q = some (wblk (digs y))) :
  q0c prog md lk 235 [.slice (some ⟨p, 0, none⟩) (digs x).length (digs x).length, .slice (some ⟨q, 0, none⟩) (digs y).length (digs y).length] H = some (.int .i64 (if x < y then -1 else if x = y then 0 else 1), H) := by
 refine q0a rfl Tryz.func235 rfl rfl ?_
 have hlt1 := @digs_len_lt x y
 have hlt2 := @digs_len_lt y x
 have hxl := lt_pow_digs x
 have hyl := lt_pow_digs y
 have hgx := digs_get x
 have hgy := digs_get y
 generalize digs x = dx at *
 generalize digs y = dy at *
 simp -dsimp only [go_sem]
 refine q0y (fun h => ?_) (fun h => ?_)
 ·have ei : IntKind.i64.wrap ((dx.length : Int) - 1) = (dx.length : Int) - 1 := w64 (by omega) (by omega)
  simp -dsimp only [go_sem, ei]
  have hab : x / B64 ^ dx.length = y / B64 ^ dx.length := by
   rw [Nat.div_eq_of_lt hxl, Nat.div_eq_of_lt (by rw [h]; exact hyl)]
  refine q0h (m := id) (I := fun i σ H' => i ≤ dx.length ∧ x / B64 ^ i = y / B64 ^ i ∧ H = H' ∧ σ 0 = .slice (some ⟨p, 0, none⟩) dx.length dx.length ∧ σ 1 = .slice (some ⟨q, 0, none⟩) dy.length dy.length ∧ σ 5 = .int .i64 ((i : Int) - 1)) dx.length ?_ ?_
  ·exact ⟨Nat.le_refl _, hab, rfl, rfl, rfl, rfl⟩
  ·rintro i σ H' ⟨h1, h2, rfl, h0, h1', h5⟩
   simp -dsimp only [go_sem, h5]
   refine q0y (fun hi => ?_) (fun hi => ?_)
   ·obtain ⟨k, rfl⟩ : ∃ k, i = k + 1 := ⟨i - 1, by omega⟩
    have hk : k < dx.length := by omega
    have hk' : k < dy.length := by omega
    have e5 : ((k + 1 : Nat) : Int) - 1 = (k : Int) := by omega
    have e6 : IntKind.i64.wrap ((k : Int) - 1) = (k : Int) - 1 := w64 (by omega) (by omega)
    have dx1 := div_step x k
    have dy1 := div_step y k
    rw [e5] at h5
    simp -dsimp only [go_sem, h0, h1', h5, hp, hq, wblk, q0k _ _ hk, q0k _ _ hk', hk, hk']
    refine q0y (fun he => ?_) (fun he => ?_)
    ·simp -dsimp only [go_sem, h5, e6]
     refine next k (by show k < k + 1; omega) ⟨by omega, ?_, rfl, h0, h1', rfl⟩
     rw [dx1, dy1, h2, ← hgx k hk, ← hgy k hk']
     omega
    ·simp -dsimp only [go_sem, h0, h1', h5, hp, hq, wblk, q0k _ _ hk, q0k _ _ hk', hk, hk']
     refine q0y (fun hl => ?_) (fun hl => ?_)
     ·simp -dsimp only [go_sem]
      rw [if_pos]
      apply w1n (M := B64 ^ k)
      rw [dx1, dy1, h2, ← hgx k hk, ← hgy k hk']
      omega
     ·simp -dsimp only [go_sem]
      have : y < x := by
       apply w1n (M := B64 ^ k)
       rw [dx1, dy1, h2, ← hgx k hk, ← hgy k hk']
       omega
      rw [if_neg (by omega), if_neg (by omega)]
   ·have : i = 0 := by omega
    subst this
    simp only [Nat.pow_zero, Nat.div_one] at h2
    simp -dsimp only [go_sem]
    rw [if_neg (by omega), if_pos h2]
 ·simp -dsimp only [go_sem]
  refine q0y (fun h2 => ?_) (fun h2 => ?_)
  ·simp -dsimp only [go_sem]
   rw [if_pos (hlt1 h2)]
  ·have := hlt2 (by omega)
   simp -dsimp only [go_sem]
   rw [if_neg (by omega), if_neg (by omega)]
theorem c_shiftUp (lk : Nat) (H : Heap) (x p s : Nat) (hs : s ≤ 63) (hx : (digs x).length < 1000000000) (hp : q0e H p = some (wblk (digs x))) :
  q0c prog md lk 238 [.slice (some ⟨p, 0, none⟩) (digs x).length (digs x).length, .int .i64 (s : Int)] H = some (.slice (some ⟨H.length, 0, none⟩) ((digs x).length + 1) ((digs x).length + 1), H ++ [wblk (digsN ((digs x).length + 1) (x * 2 ^ s))]) := by
 refine q4x rfl Tryz.func238 rfl ?_
 have hxl := lt_pow_digs x
 have hgx := digs_get x
 have hwx := digs_lt x
 generalize digs x = dx at *
 have e1 : IntKind.i64.wrap ((dx.length : Int) + 1) = ((dx.length + 1 : Nat) : Int) := by rw [w64 (by omega) (by omega)]; omega
 simp -dsimp only [go_sem, e1]
 refine ⟨by omega, ?_⟩
 have ms : min s 64 = s := Nat.min_eq_left (by omega)
 have m64 : min (64 - s) 64 = 64 - s := Nat.min_eq_left (by omega)
 have e64 : IntKind.i64.wrap (64 - (s : Int)) = ((64 - s : Nat) : Int) := by rw [w64 (by omega) (by omega)]; omega
 refine q0h (m := fun i => dx.length - i) (I := fun i σ H' => i ≤ dx.length ∧ H' = H ++ [wblk (q5i x s (dx.length + 1) i)] ∧ σ 1 = .int .i64 (s : Int) ∧ σ 5 = .slice (some ⟨H.length, 0, none⟩) (dx.length + 1) (dx.length + 1) ∧ σ 12 = .slice (some ⟨p, 0, none⟩) dx.length dx.length ∧ σ 13 = .int .i64 (dx.length : Int) ∧ σ 14 = .int .i64 (i : Int)) 0 ?_ ?_
 ·refine ⟨Nat.zero_le _, ?_, rfl, rfl, rfl, rfl, rfl⟩
  unfold q5i
  rw [Nat.pow_zero, Nat.mod_one, Nat.zero_mul, digsN_zero, q3j]; rfl
 ·rintro i σ H' ⟨h1, rfl, h1', h5, h12, h13, h14⟩
  simp -dsimp only [go_sem, h13, h14]
  refine q0y (fun hi => ?_) (fun hi => ?_)
  ·have hxi : dx[i] < B64 := hwx _ (List.getElem_mem hi)
   have hi2 : i < dx.length + 1 := by omega
   have hi3 : i + 1 < dx.length + 1 := by omega
   obtain ⟨s1, s2, s3⟩ := sh_step x s (dx.length + 1) i hs hi3
   rw [← hgx i hi] at s1 s2 s3
   have hl : i < (q5i x s (dx.length + 1) i).length := by unfold q5i; rw [digsN_len]; exact hi2
   have hlen : (q5i x s (dx.length + 1) i).length = dx.length + 1 := by unfold q5i; rw [digsN_len]
   have hg : (q5i x s (dx.length + 1) i)[i] = x % B64 ^ i * 2 ^ s / B64 ^ i % B64 := (List.getElem?_eq_some_iff.1 (digsN_get (dx.length + 1) (x % B64 ^ i * 2 ^ s) i hi2)).2
   have eor : q6t .or .u64 ((x % B64 ^ i * 2 ^ s / B64 ^ i % B64 : Nat) : Int) ((dx[i] * 2 ^ s % B64 : Nat) : Int) = some (.int .u64 ((x % B64 ^ i * 2 ^ s / B64 ^ i % B64 ||| dx[i] * 2 ^ s % B64 : Nat) : Int)) := w4n (Nat.mod_lt _ (by decide)) (Nat.mod_lt _ (by decide))
   generalize (x % B64 ^ i * 2 ^ s / B64 ^ i % B64 ||| dx[i] * 2 ^ s % B64) = w at *
   have hl2 : i + 1 < ((q5i x s (dx.length + 1) i).set i w).length := by rw [List.length_set, hlen]; exact hi3
   have e7 : IntKind.i64.wrap ((i : Int) + 1) = ((i + 1 : Nat) : Int) := by rw [w64 (by omega) (by omega)]; omega
   have el : IntKind.u64.wrap ((dx[i] : Int) * 2 ^ s) = ((dx[i] * 2 ^ s % B64 : Nat) : Int) := u64shl _ _
   simp -dsimp only [go_sem, h1', h5, h12, h13, h14, q0u hp, wblk, q0k _ _ hi, hi, hi2, hl, hlen, q0k _ _ hl, hg, ms, el, eor, q0p _ _ _ hl]
   refine q0y (fun h0 => ?_) (fun h0 => ?_)
   ·simp -dsimp only [go_sem, h1', h5, h12, h13, h14, e7, hi3, e64, m64, u64shr, q0p _ _ _ hl2, hl2, List.length_set, hlen]
    refine next (i + 1) (by show dx.length - (i + 1) < dx.length - i; omega) ⟨hi, ?_, h1', h5, h12, h13, rfl⟩
    rw [s2]
   ·simp -dsimp only [go_sem, h1', h5, h12, h13, h14, e7]
    refine next (i + 1) (by show dx.length - (i + 1) < dx.length - i; omega) ⟨hi, ?_, h1', h5, h12, h13, rfl⟩
    rw [s3 (by omega)]
  ·have : i = dx.length := by omega
   subst this
   have hfin : q5i x s (dx.length + 1) dx.length = digsN (dx.length + 1) (x * 2 ^ s) := by unfold q5i; rw [Nat.mod_eq_of_lt hxl]
   rw [hfin] at *
   simp -dsimp only [go_sem, h5, h12, h13, h14]
   have := w0u (H := H ++ [wblk (digsN (dx.length + 1) (x * 2 ^ s))]) (n0 := H.length) (b := H.length) (ws := digsN (dx.length + 1) (x * 2 ^ s)) (n := dx.length + 1) (Nat.le_refl _) (by simp -dsimp only [go_sem, wblk]) (by rw [digsN_len]; exact Nat.le_refl _)
   rw [this, List.take_of_length_le (by rw [digsN_len]; exact Nat.le_refl _)]
theorem wget (m N k : Nat) (hk : k < m) : (q1j (digsN m N))[k]? = some (.int .u64 ((N / B64 ^ k % B64 : Nat) : Int)) := by
 have h : k < (digsN m N).length := by rw [digsN_len]; exact hk
 rw [q0k _ _ h, (List.getElem?_eq_some_iff.1 (digsN_get m N k hk)).2]
theorem vget (V k : Nat) (hk : k < (digs V).length) : (q1j (digs V))[k]? = some (.int .u64 ((V / B64 ^ k % B64 : Nat) : Int)) := by
 rw [q0k _ _ hk, digs_get V k hk]
theorem c_step (lk : Nat) (H : Heap) (b c o m N V : Nat) (wv : List Nat) (hlk : lk ≤ b) (hbc : c ≠ b) (hn : 2 ≤ (digs V).length) (hm : o + (digs V).length < m) (hml : m < 1000000000) (hN : N < V * B64 ^ (o + 1)) (hb : q0e H b = some (wblk (digsN m N))) (hc : q0e H c = some (wblk wv)) (hvg : ∀ k, k < (digs V).length → (q1j wv)[k]? = some (.int .u64 ((V / B64 ^ k % B64 : Nat) : Int))) :
  q0c prog md lk 239 [.slice (some ⟨b, o, none⟩) ((digs V).length + 1) ((digs V).length + 1), .slice (some ⟨c, 0, none⟩) (digs V).length (digs V).length] H = some (.int .u64 ((N / B64 ^ o / V : Nat) : Int), H.set b (wblk (digsN m (N - N / B64 ^ o / V * V * B64 ^ o)))) := by
 refine w1s (by decide) (by decide) (by decide) Tryz.func239 rfl ?_
 have hbl := q0w hb
 have hcl := q0w hc
 have hself : H = H.set b ⟨q1j (digsN m N), 1, false⟩ := by
  have := q2y hb
  rw [List.getElem?_eq_some_iff] at this
  obtain ⟨h1, h2⟩ := this
  rw [wblk] at h2
  rw [← h2, List.set_getElem_self]
 have hsb : ∀ ws, q0e (H.set b ⟨q1j ws, 1, false⟩) b = some ⟨q1j ws, 1, false⟩ := by
  intro ws; unfold q0e; rw [List.getElem?_set_self hbl]; rfl
 have hsc : ∀ ws, q0e (H.set b ⟨q1j ws, 1, false⟩) c = some ⟨q1j wv, 1, false⟩ := by
  intro ws; unfold q0e at hc ⊢; rw [List.getElem?_set_ne (Ne.symm hbc)]; exact hc
 have hVn := lt_pow_digs V
 have hV1 : B64 ^ ((digs V).length - 1) ≤ V := by
  apply Nat.le_of_not_lt
  intro h
  have := digs_len V _ h
  omega
 have htop := top_of N V o (digs V).length hn hVn hV1 hN
 simp only [wblk] at hb hc
 generalize hnn : (digs V).length = n at *
 have en1 : IntKind.i64.wrap ((n : Int) - 1) = ((n - 1 : Nat) : Int) := by rw [w64 (by omega) (by omega)]; omega
 have en2 : IntKind.i64.wrap ((n : Int) - 2) = ((n - 2 : Nat) : Int) := by rw [w64 (by omega) (by omega)]; omega
 have b0 : n < n + 1 := by omega
 have b1 : n - 1 < n + 1 := by omega
 have b2 : n - 2 < n + 1 := by omega
 have b3 : n - 1 < n := by omega
 have b4 : n - 2 < n := by omega
 have g0 := wget m N (o + n) (by omega)
 have g1 := wget m N (o + (n - 1)) (by omega)
 have g2 := wget m N (o + (n - 2)) (by omega)
 have g3 := hvg (n - 1) b3
 have g4 := hvg (n - 2) b4
 have hu0 : N / B64 ^ (o + n) % B64 < B64 := Nat.mod_lt _ (by decide)
 have hu1 : N / B64 ^ (o + (n - 1)) % B64 < B64 := Nat.mod_lt _ (by decide)
 have hu2 : N / B64 ^ (o + (n - 2)) % B64 < B64 := Nat.mod_lt _ (by decide)
 have hv1 : V / B64 ^ (n - 1) % B64 < B64 := Nat.mod_lt _ (by decide)
 have hv2 : V / B64 ^ (n - 2) % B64 < B64 := Nat.mod_lt _ (by decide)
 generalize N / B64 ^ (o + n) % B64 = ut at *
 generalize N / B64 ^ (o + (n - 1)) % B64 = u1 at *
 generalize N / B64 ^ (o + (n - 2)) % B64 = u2 at *
 generalize V / B64 ^ (n - 1) % B64 = v1 at *
 generalize V / B64 ^ (n - 2) % B64 = v2 at *
 obtain ⟨tu, tv, tle, tpos, tq, tqB, tv1⟩ := htop
 generalize hQ : N / B64 ^ o / V = Q at *
 simp -dsimp only [go_sem, hb, hc, en1, b0, b1, b3, g0, g1, g3]
 refine w0q (fun σ H' => ∃ q r, q * v1 + r = ut * B64 + u1 ∧ Q ≤ q ∧ q < B64 ∧ r < 2 * B64 ∧ H = H' ∧ σ 0 = .slice (some ⟨b, o, none⟩) (n + 1) (n + 1) ∧ σ 1 = .slice (some ⟨c, 0, none⟩) n n ∧ σ 5 = .int .i64 (n : Int) ∧ σ 6 = .int .u64 (q : Int) ∧ σ 7 = .int .u64 ((r % B64 : Nat) : Int) ∧ σ 8 = .int .u64 ((r / B64 : Nat) : Int)) (fun h => ?_) (fun h => ?_) ?_
 ·have h := of_decide_eq_true h
  have a1 := q8n H.length H u1 v1 0 (by omega)
  simp only [Int.natCast_zero, Nat.add_zero] at a1
  simp -dsimp only [go_sem, hb, hc, en1, b0, b1, b3, g0, g1, g3, a1]
  refine ⟨18446744073709551615, u1 + v1, ?_, by simp only [B64] at *; omega, by decide, by omega, rfl, rfl, rfl, rfl, rfl, rfl, rfl⟩
  have : ut = v1 := by omega
  subst this
  simp only [B64]; omega
 ·have h := of_decide_eq_false h
  have hlt : ut < v1 := by omega
  have a1 := c_Div64 H.length H ut u1 v1 hlt hu1 hv1
  simp -dsimp only [go_sem, hb, hc, en1, b0, b1, b3, g0, g1, g3, a1]
  have hr : (ut * B64 + u1) % v1 < v1 := Nat.mod_lt _ tv1
  refine ⟨(ut * B64 + u1) / v1, (ut * B64 + u1) % v1, ?_, top_quo hu2 tq tv1, quo_lt hlt hu1, by omega, rfl, rfl, rfl, rfl, rfl, ?_, ?_⟩
  ·rw [Nat.mul_comm]; exact Nat.div_add_mod _ _
  ·rw [Nat.mod_eq_of_lt (by omega : (ut * B64 + u1) % v1 < B64)]; rfl
  ·rw [Nat.div_eq_of_lt (by omega : (ut * B64 + u1) % v1 < B64)]; rfl
 rintro σ H' ⟨q, r, hqr, hQq, hqB, hr, rfl, h0, h1, h5, h6, h7, h8⟩
 simp -dsimp only [go_sem]
 refine q8u (fun σ H' => ∃ q, Q ≤ q ∧ q ≤ Q + 1 ∧ q < B64 ∧ H = H' ∧ σ 0 = .slice (some ⟨b, o, none⟩) (n + 1) (n + 1) ∧ σ 1 = .slice (some ⟨c, 0, none⟩) n n ∧ σ 5 = .int .i64 (n : Int) ∧ σ 6 = .int .u64 (q : Int)) ?_ ?_
 ·have hend : ∀ q r, q * v1 + r = ut * B64 + u1 → q < B64 → q * v2 ≤ B64 * r + u2 → q ≤ Q + 1 := by
   intro q r e1 e2 e3
   have := guess_le e1 e3
   rw [← tv, ← tu] at this
   rw [← hQ]
   exact est_hi _ _ _ _ e2 tpos this
  refine q0h (m := id) (I := fun q σ H' => ∃ r, q * v1 + r = ut * B64 + u1 ∧ Q ≤ q ∧ q < B64 ∧ r < 2 * B64 ∧ H = H' ∧ σ 0 = .slice (some ⟨b, o, none⟩) (n + 1) (n + 1) ∧ σ 1 = .slice (some ⟨c, 0, none⟩) n n ∧ σ 5 = .int .i64 (n : Int) ∧ σ 6 = .int .u64 (q : Int) ∧ σ 7 = .int .u64 ((r % B64 : Nat) : Int) ∧ σ 8 = .int .u64 ((r / B64 : Nat) : Int)) q ?_ ?_
  ·exact ⟨r, hqr, hQq, hqB, hr, rfl, h0, h1, h5, h6, h7, h8⟩
  ·clear hqr hQq hqB hr h0 h1 h5 h6 h7 h8 r q σ
   rintro q σ H' ⟨r, hqr, hQq, hqB, hr, rfl, h0, h1, h5, h6, h7, h8⟩
   simp -dsimp only [go_sem, h8]
   refine q0y (fun hov => ?_) (fun hov => ?_)
   ·have hrB : r < B64 := by
     have : r / B64 = 0 := by omega
     exact (Nat.div_eq_zero_iff_lt (by decide)).1 this
    rw [Nat.mod_eq_of_lt hrB] at h7
    rw [Nat.div_eq_of_lt hrB] at h8
    have a2 := c_Mul64 lk H q v2 hqB hv2
    have hcmp : q * v2 = B64 * (q * v2 / B64) + q * v2 % B64 := (Nat.div_add_mod _ _).symm
    have hlo : q * v2 % B64 < B64 := Nat.mod_lt _ (by decide)
    simp -dsimp only [go_sem, h0, h1, h5, h6, h7, h8, hc, hb, en2, b4, g4, a2]
    generalize q * v2 / B64 = hi at *
    generalize q * v2 % B64 = lo at *
    refine q0y (fun k1 => ?_) (fun k1 => ?_)
    ·simp -dsimp only [go_sem, h0, h1, h5, h6, h7, h8, hc, hb, k1]
     exact ⟨q, hQq, hend q r hqr hqB (by simp only [B64] at *; omega), hqB, rfl, h0, h1, h5, h6⟩
    ·simp -dsimp only [go_sem, h0, h1, h5, h6, h7, h8, hc, hb, k1]
     refine q0y (fun k2 => ?_) (fun k2 => ?_)
     ·simp -dsimp only [go_sem, h0, h1, h5, h6, h7, h8, hc, hb, k1, eq_true k2, en2, b2, g2]
      refine q0y (fun k3 => ?_) (fun k3 => ?_)
      ·simp -dsimp only [go_sem, h0, h1, h5, h6, h7, h8, hc, hb]
       exact ⟨q, hQq, hend q r hqr hqB (by simp only [B64] at *; omega), hqB, rfl, h0, h1, h5, h6⟩
      ·have hbig : B64 * r + u2 < q * v2 := by simp only [B64] at *; omega
       have hq0 := guess_lt tq hqr hbig
       have eq1 : IntKind.u64.wrap ((q : Int) - 1) = ((q - 1 : Nat) : Int) := by rw [IntKind.wrap_u64]; simp only [B64] at *; omega
       have a1 := q8n lk H r v1 0 (by omega)
       simp only [Int.natCast_zero, Nat.add_zero] at a1
       simp -dsimp only [go_sem, h0, h1, h5, h6, h7, h8, hc, en1, b3, g3, eq1, a1]
       refine next (q - 1) (by show q - 1 < q; omega) ⟨r + v1, ?_, by omega, by omega, by omega, rfl, h0, h1, h5, rfl, rfl, rfl⟩
       rw [w3m v1 r (by omega), hqr]
     ·have hbig : B64 * r + u2 < q * v2 := by simp only [B64] at *; omega
      simp -dsimp only [go_sem, h0, h1, h5, h6, h7, h8, hc, hb, k1, k2]
      have hq0 := guess_lt tq hqr hbig
      have eq1 : IntKind.u64.wrap ((q : Int) - 1) = ((q - 1 : Nat) : Int) := by rw [IntKind.wrap_u64]; simp only [B64] at *; omega
      have a1 := q8n lk H r v1 0 (by omega)
      simp only [Int.natCast_zero, Nat.add_zero] at a1
      simp -dsimp only [go_sem, h0, h1, h5, h6, h7, h8, hc, en1, b3, g3, eq1, a1]
      refine next (q - 1) (by show q - 1 < q; omega) ⟨r + v1, ?_, by omega, by omega, by omega, rfl, h0, h1, h5, rfl, rfl, rfl⟩
      rw [w3m v1 r (by omega), hqr]
   ·have hrB : B64 ≤ r := by
     apply Nat.le_of_not_lt
     intro h
     exact hov (by rw [Nat.div_eq_of_lt h]; rfl)
    simp -dsimp only [go_sem]
    exact ⟨q, hQq, hend q r hqr hqB (guess_big hv2 hqB hrB), hqB, rfl, h0, h1, h5, h6⟩
 ·clear hqr hQq hqB hr h0 h1 h5 h6 h7 h8 r q σ
  rintro σ H' ⟨q, hQq, hq1, hqB, rfl, h0, h1, h5, h6⟩
  simp -dsimp only [go_sem, h0, h1, h5, h6]
  refine q0h (m := fun i => n - i) (I := fun i σ H' => ∃ M cc e, i ≤ n ∧ SubMul N q V o i M cc e ∧ H' = H.set b ⟨q1j (digsN m M), 1, false⟩ ∧ σ 0 = .slice (some ⟨b, o, none⟩) (n + 1) (n + 1) ∧ σ 1 = .slice (some ⟨c, 0, none⟩) n n ∧ σ 5 = .int .i64 (n : Int) ∧ σ 6 = .int .u64 (q : Int) ∧ σ 11 = .int .u64 (e : Int) ∧ σ 12 = .int .u64 (cc : Int) ∧ σ 104 = .int .i64 (n : Int) ∧ σ 105 = .int .i64 (i : Int)) 0 ?_ ?_
  ·exact ⟨N, 0, 0, Nat.zero_le _, subMul_zero N q V o, hself, h0, h1, h5, h6, rfl, rfl, rfl, rfl⟩
  ·clear h0 h1 h5 h6 σ
   rintro i σ H' ⟨M, cc, e, hi1, hsm, rfl, h0, h1, h5, h6, h11, h12, h104, h105⟩
   simp -dsimp only [go_sem, h104, h105]
   refine q0y (fun hi => ?_) (fun hi => ?_)
   ·have hoi : o + i < m := by omega
    have bi : i < n + 1 := by omega
    have gv := hvg i hi
    have gu := wget m M (o + i) hoi
    obtain ⟨M', k1, k2⟩ := subMul_step m N q V o i M cc e hoi hqB hsm
    have hvi : V / B64 ^ i % B64 < B64 := Nat.mod_lt _ (by decide)
    have hz : M / B64 ^ (o + i) % B64 < B64 := Nat.mod_lt _ (by decide)
    have a2 := fun H' => c_Mul64 lk H' q (V / B64 ^ i % B64) hqB hvi
    have a1 := fun H' => q8n lk H' (q * (V / B64 ^ i % B64) % B64) cc 0 (by omega)
    obtain ⟨m1, m2⟩ := mul_words _ cc 0 (mul_le_top hqB hvi) hsm.2.2.1 (by decide)
    simp only [Int.natCast_zero, Nat.add_zero] at a1 m1 m2
    have hL : (q * (V / B64 ^ i % B64) % B64 + cc) % B64 = (q * (V / B64 ^ i % B64) + cc) % B64 := by rw [Nat.add_mod, Nat.mod_mod, ← Nat.add_mod]
    have a3 := fun H' => c_Sub64 lk H' (M / B64 ^ (o + i) % B64) ((q * (V / B64 ^ i % B64) + cc) % B64) e (Nat.mod_lt _ (by decide)) hsm.2.2.2
    rw [hL] at a1
    have hlen : o + i < (digsN m M).length := by rw [digsN_len]; exact hoi
    have e7 : IntKind.i64.wrap ((i : Int) + 1) = ((i + 1 : Nat) : Int) := by rw [w64 (by omega) (by omega)]; omega
    simp -dsimp only [go_sem, h0, h1, h5, h6, h11, h12, h104, h105, hsb, hsc, hi, bi, gv, gu, a2, a1, a3, q2x, q0p _ _ _ hlen, hlen, digsN_len, hoi, hlk, List.set_set, e7]
    rw [Nat.div_eq_of_lt (Nat.mod_lt _ (by decide)), Nat.add_zero, Nat.mod_mod] at m2
    refine next (i + 1) (by show n - (i + 1) < n - i; omega) ⟨M', _, _, hi, k2, ?_, h0, h1, h5, h6, rfl, ?_, h104, rfl⟩
    ·rw [k1]
    ·rw [← m2]; rfl
   ·have : i = n := by omega
    subst this
    have gu := wget m M (o + i) hm
    obtain ⟨M', k1, k2, k3⟩ := subMul_last m N q V o i M cc e hm hVn hsm
    have a3 := fun H' => c_Sub64 lk H' (M / B64 ^ (o + i) % B64) cc e hsm.2.2.1 hsm.2.2.2
    have hlen : o + i < (digsN m M).length := by rw [digsN_len]; exact hm
    simp -dsimp only [go_sem, h0, h1, h5, h6, h11, h12, h104, h105, hsb, hsc, b0, gu, a3, q2x, q0p _ _ _ hlen, hlen, digsN_len, hm, hlk, List.set_set, ← k1]
    have hVp : 0 < V := Nat.lt_of_lt_of_le (Nat.pow_pos (by decide)) tpos
    refine q0y (fun hz => ?_) (fun hz => ?_)
    ·have hz' : ¬ (M / B64 ^ (o + i) % B64 < cc + e) := by
      intro h; rw [if_pos h] at hz; simp at hz
     rw [if_neg hz', Nat.zero_mul, Nat.add_zero] at k2
     obtain ⟨f1, f2⟩ := step_fin0 hVp (by rw [hQ]; exact hQq) k2
     rw [hQ] at f1 f2
     simp -dsimp only [go_sem, h6]
     rw [f1, f2]
     exact ⟨rfl, rfl⟩
    ·have hz' : M / B64 ^ (o + i) % B64 < cc + e := by
      apply Decidable.byContradiction
      intro h; rw [if_neg h] at hz; exact hz rfl
     rw [if_pos hz'] at k2
     simp -dsimp only [go_sem, h5]
     refine q0h (m := fun j => i - j) (I := fun j σ H' => ∃ A d, j ≤ i ∧ w3i M' V o j A d ∧ H' = H.set b ⟨q1j (digsN m A), 1, false⟩ ∧ σ 0 = .slice (some ⟨b, o, none⟩) (i + 1) (i + 1) ∧ σ 1 = .slice (some ⟨c, 0, none⟩) i i ∧ σ 5 = .int .i64 (i : Int) ∧ σ 6 = .int .u64 (q : Int) ∧ σ 17 = .int .u64 (d : Int) ∧ σ 156 = .int .i64 (i : Int) ∧ σ 157 = .int .i64 (j : Int)) 0 ?_ ?_
     ·exact ⟨M', 0, Nat.zero_le _, addBack_zero M' V o, rfl, h0, h1, h5, h6, rfl, rfl, rfl⟩
     ·clear h0 h1 h5 h6 h11 h12 h104 h105 σ
      rintro j σ H' ⟨A, d, hj1, hab, rfl, h0, h1, h5, h6, h17, h156, h157⟩
      simp -dsimp only [go_sem, h156, h157]
      refine q0y (fun hj => ?_) (fun hj => ?_)
      ·have hoj : o + j < m := by omega
       have bj : j < i + 1 := by omega
       have gv := hvg j hj
       have gu := wget m A (o + j) hoj
       obtain ⟨A', k1', k2'⟩ := addBack_step m M' V o j A d hoj hab
       have a1 := fun lk H' => q8n lk H' (A / B64 ^ (o + j) % B64) (V / B64 ^ j % B64) d hab.2.2
       have hlen : o + j < (digsN m A).length := by rw [digsN_len]; exact hoj
       have e7 : IntKind.i64.wrap ((j : Int) + 1) = ((j + 1 : Nat) : Int) := by rw [w64 (by omega) (by omega)]; omega
       simp -dsimp only [go_sem, h0, h1, h5, h6, h17, h156, h157, hsb, hsc, hj, bj, gv, gu, a1, q0p _ _ _ hlen, hlen, digsN_len, hoj, hlk, List.set_set, ← k1', e7]
       exact next (j + 1) (by show i - (j + 1) < i - j; omega) ⟨A', _, hj, k2', rfl, h0, h1, h5, h6, rfl, h156, rfl⟩
      ·have : j = i := by omega
       subst this
       have gu := wget m A (o + j) hm
       obtain ⟨A', e3, k1', k2', k3'⟩ := addBack_last m M' V o j A d hm hVn hab
       have hlen : o + j < (digsN m A).length := by rw [digsN_len]; exact hm
       obtain ⟨f1, f2⟩ := step_fin1 hVp hVn (by rw [hQ]; exact hq1) hN k2 k3 k2' k3'
       rw [hQ] at f1 f2
       have eq1 : IntKind.u64.wrap ((q : Int) - 1) = (Q : Int) := by rw [IntKind.wrap_u64]; simp only [B64] at *; omega
       simp -dsimp only [go_sem, h0, h1, h5, h6, h17, h156, h157, hsb, hsc, b0, gu, q2x, q0p _ _ _ hlen, hlen, digsN_len, hm, hlk, List.set_set, ← k1', eq1]
       rw [f2]
       rfl
theorem q3m {P : Program} {md : Md} {lk : Nat} {g : FuncId} {fn : Func} {body : Code} {args : List Value} {H : Heap} (hm : md g = 2) (hg : P.funcs[g]? = some fn) (hb : fn.body = some body) {R : Value → List Blk → Prop} (h : Runs P md H.length body (q4j args) H (Ends P fn fun u H' => ∃ v N, q4i H' H.length u = some (v, N) ∧ R v N)) : ∃ v N, q0c P md lk g args H = some (v, H ++ N) ∧ R v N := by
 obtain ⟨n, u, H', h1, v, N, h2, h3⟩ := q7e hg hb h
 refine ⟨v, N, ?_, h3⟩
 unfold q0c
 rw [hg]
 simp only [hb, Option.isSome_some, if_true]
 refine q2o.2 ⟨n, ?_⟩
 unfold wrap q3q
 rw [hm]
 simp only [h1, h2]
theorem islice_nil {P : Program} {H : Heap} {t e : TypeId} {k : Nat} (he : q0z P t = some e) (hk : tsz P e = some k) : q4w P H t (.slice none 0 0) none (some (.int .i64 0)) none = some (.slice none 0 0) := by
 simp [q4w, q2l, he, hk]
theorem tel_w : q0z prog 176 = some 146 := by kernel_rfl
theorem tsz_w : tsz prog 146 = some 1 := by kernel_rfl
theorem c95n (lk : Nat) (H : Heap) : q0c prog md lk 230 [.slice none 0 0] H = some (.slice none 0 0, H) := by
 have e : H = H ++ [] := (List.append_nil H).symm
 conv => rhs; rw [e]
 refine q4x rfl Tryz.func230 rfl ?_
 simp -dsimp only [go_sem]
 refine q0h (m := id) (I := fun k σ H' => H = H' ∧ σ 0 = .slice none 0 0 ∧ σ 3 = .int .i64 0) 0 ⟨rfl, rfl, rfl⟩ ?_
 rintro k σ H' ⟨rfl, h0, h3⟩
 simp -dsimp only [go_sem, h0, h3]
 rw [islice_nil tel_w tsz_w]
 simp -dsimp only [go_sem, h0, h3]
 rfl
theorem c86n (lk : Nat) (H : Heap) : q0c prog md lk 210 [.slice none 0 0] H = some (.string (mkS []), H) := by
 refine q0a rfl Tryz.func210 rfl rfl ?_
 simp -dsimp only [go_sem, c95n, Int.natCast_zero]
def IsW (H : Heap) (v : Value) (x : Nat) : Prop := (v = .slice none 0 0 ∧ x = 0) ∨ ∃ b, v = .slice (some ⟨b, 0, none⟩) (digs x).length (digs x).length ∧ q0e H b = some (wblk (digs x))
theorem short_step (a d k : Nat) : a / B64 ^ k / d = a / B64 ^ (k + 1) / d * B64 + (a / B64 ^ (k + 1) % d * B64 + a / B64 ^ k % B64) / d ∧ a / B64 ^ k % d = (a / B64 ^ (k + 1) % d * B64 + a / B64 ^ k % B64) % d := by
 obtain ⟨h1, h2⟩ := w3c (a / B64 ^ (k + 1)) B64 (a / B64 ^ k % B64) d
 have e := q8j a k
 rw [h1, h2, ← e]
 exact ⟨rfl, rfl⟩
theorem digs_one (x : Nat) (hx : x < B64) : [x].take (q1h [x] 1) = digs x ∧ q1h [x] 1 = (digs x).length := by
 have h : ∀ w ∈ [x], w < B64 := by simpa using hx
 have h1 := trim_eq [x] h
 have h2 := trim_len [x] h
 simp only [wval, Nat.mul_zero, Nat.add_zero, List.length_cons, List.length_nil, Nat.zero_add] at h1 h2
 exact ⟨h1, h2⟩
theorem short_set (n a d k : Nat) (hk : k < n) (hd : a / B64 ^ (k + 1) % d * B64 + a / B64 ^ k % B64 < d * B64) :
  digsN n (a / B64 ^ k / d * B64 ^ k) = (digsN n (a / B64 ^ (k + 1) / d * B64 ^ (k + 1))).set k ((a / B64 ^ (k + 1) % d * B64 + a / B64 ^ k % B64) / d) := by
 have hq : (a / B64 ^ (k + 1) % d * B64 + a / B64 ^ k % B64) / d < B64 := Nat.div_lt_of_lt_mul hd
 rw [(short_step a d k).1]
 generalize (a / B64 ^ (k + 1) % d * B64 + a / B64 ^ k % B64) / d = w at *
 generalize a / B64 ^ (k + 1) / d = X
 have hp : 0 < B64 ^ k := Nat.pow_pos (by decide)
 have h := digsN_replace n 0 X k 0 w hk hp (by decide) hq
 simp only [Nat.zero_add, Nat.zero_mul] at h
 rw [← h]
 congr 1
 rw [Nat.pow_succ]; grind
theorem compV_nil_old {H : Heap} {n0 b n : Nat} (h : b < n0) : q4i H n0 (.tuple #[.slice none 0 0, .slice (some ⟨b, 0, none⟩) n n]) = some (.tuple #[.slice none 0 0, .slice (some ⟨b, 0, none⟩) n n], []) := by
 simp [q4i, q6d, w1w, q2f, kok0, h]
theorem compV_two {H : Heap} {n0 b1 b2 k1 k2 : Nat} {w1 w2 : List Nat} (h1 : n0 ≤ b1) (h2 : n0 ≤ b2) (hne : b2 ≠ b1) (hB1 : q0e H b1 = some (wblk w1)) (hB2 : q0e H b2 = some (wblk w2)) (hk1 : k1 ≤ w1.length) (hk2 : k2 ≤ w2.length) :
  q4i H n0 (.tuple #[.slice (some ⟨b1, 0, none⟩) k1 k1, .slice (some ⟨b2, 0, none⟩) k2 k2]) = some (.tuple #[.slice (some ⟨n0, 0, none⟩) k1 k1, .slice (some ⟨n0 + 1, 0, none⟩) k2 k2], [wblk (w1.take k1), wblk (w2.take k2)]) := by
 have e1 : ((wblk w1).c.drop 0).take (k1 * (wblk w1).sz) = q1j (w1.take k1) := by simp [wblk, q1j, List.map_take]
 have e2 : ((wblk w2).c.drop 0).take (k2 * (wblk w2).sz) = q1j (w2.take k2) := by simp [wblk, q1j, List.map_take]
 have c1 : q2f H n0 ([], []) (.slice (some ⟨b1, 0, none⟩) k1 k1) = some (.slice (some ⟨n0, 0, none⟩) k1 k1, ([b1], [wblk (w1.take k1)])) := by
  simp only [q2f, if_neg (Nat.not_lt.2 h1), hB1]
  rw [if_pos ⟨trivial, by simp only [wblk, w2f]; omega, rfl, by rw [e1]; exact w1a _⟩, e1]; rfl
 have c2 : q2f H n0 ([b1], [wblk (w1.take k1)]) (.slice (some ⟨b2, 0, none⟩) k2 k2) = some (.slice (some ⟨n0 + 1, 0, none⟩) k2 k2, ([b2, b1], [wblk (w1.take k1), wblk (w2.take k2)])) := by
  simp only [q2f, if_neg (Nat.not_lt.2 h2), hB2]
  rw [if_pos ⟨trivial, by simp only [wblk, w2f]; omega, by simp [hne], by rw [e2]; exact w1a _⟩, e2]; rfl
 simp only [q4i, q6d, w1w, c1, c2, Option.map_some]
theorem c_divide (lk : Nat) (H : Heap) (a d p q : Nat) (hd : d ≠ 0) (hla : (digs a).length < 500000000) (hp : q0e H p = some (wblk (digs a))) (hq : q0e H q = some (wblk (digs d))) :
  ∃ v N, q0c prog md lk 229 [.slice (some ⟨p, 0, none⟩) (digs a).length (digs a).length, .slice (some ⟨q, 0, none⟩) (digs d).length (digs d).length] H = some (v, H ++ N) ∧ ∃ v1 v2, v = .tuple #[v1, v2] ∧ IsW (H ++ N) v1 (a / d) ∧ IsW (H ++ N) v2 (a % d) := by
 refine q3m rfl Tryz.func229 rfl ?_
 have hpl := q0w hp
 have hcmp := fun lk => c_compareWords lk H a d p q (by omega) hp hq
 simp -dsimp only [go_sem, hcmp]
 refine q0y (fun h => ?_) (fun h => ?_)
 ·have had : a < d := by
   apply Decidable.byContradiction
   intro hh; rw [if_neg hh] at h; split at h <;> omega
  simp -dsimp only [go_sem]
  refine ⟨_, _, compV_nil_old hpl, _, _, rfl, Or.inl ⟨rfl, Nat.div_eq_of_lt had⟩, Or.inr ⟨p, ?_, ?_⟩⟩
  ·rw [Nat.mod_eq_of_lt had]
  ·rw [Nat.mod_eq_of_lt had, List.append_nil]; exact hp
 have had : d ≤ a := by
  apply Nat.le_of_not_lt
  intro hh; rw [if_pos hh] at h; omega
 clear h hcmp
 have hdp : 0 < d := Nat.pos_of_ne_zero hd
 simp -dsimp only [go_sem]
 refine q0y (fun h1 => ?_) (fun h1 => ?_)
 ·-- one word
  have h1' : (digs d).length = 1 := by omega
  have hdB : d < B64 := by have := lt_pow_digs d; rw [h1'] at this; simpa using this
  have hd0 : ∃ h : 0 < (digs d).length, (digs d)[0] = d := ⟨by omega, by rw [digs_get d 0 (by omega), Nat.pow_zero, Nat.div_one, Nat.mod_eq_of_lt hdB]⟩
  obtain ⟨hd1, hd2⟩ := hd0
  have gd : (q1j (digs d))[0]? = some (.int .u64 (d : Int)) := by rw [q0k _ _ hd1, hd2]
  have hga := vget a
  have hal := lt_pow_digs a
  rw [h1'] at *
  generalize digs a = da at *
  have ei : IntKind.i64.wrap ((da.length : Int) - 1) = (da.length : Int) - 1 := w64 (by omega) (by omega)
  simp -dsimp only [go_sem, ei]
  refine ⟨by omega, ?_⟩
  simp only [wblk] at hp hq
  refine q0h (m := id) (I := fun i σ H' => i ≤ da.length ∧ H' = H ++ [wblk (digsN da.length (a / B64 ^ i / d * B64 ^ i))] ∧ σ 0 = .slice (some ⟨p, 0, none⟩) da.length da.length ∧ σ 1 = .slice (some ⟨q, 0, none⟩) 1 1 ∧ σ 6 = .slice (some ⟨H.length, 0, none⟩) da.length da.length ∧ σ 7 = .int .u64 ((a / B64 ^ i % d : Nat) : Int) ∧ σ 8 = .int .i64 ((i : Int) - 1)) da.length ?_ ?_
  ·refine ⟨Nat.le_refl _, ?_, rfl, rfl, rfl, ?_, rfl⟩
   ·rw [Nat.div_eq_of_lt hal, Nat.zero_div, Nat.zero_mul, digsN_zero, q3j]; rfl
   ·rw [Nat.div_eq_of_lt hal, Nat.zero_mod]; rfl
  ·rintro i σ H' ⟨hi1, rfl, g0, g1, g6, g7, g8⟩
   simp -dsimp only [go_sem, g8]
   refine q0y (fun hi => ?_) (fun hi => ?_)
   ·obtain ⟨k, rfl⟩ : ∃ k, i = k + 1 := ⟨i - 1, by omega⟩
    have hk : k < da.length := by omega
    have e5 : ((k + 1 : Nat) : Int) - 1 = (k : Int) := by omega
    have e6 : IntKind.i64.wrap ((k : Int) - 1) = (k : Int) - 1 := w64 (by omega) (by omega)
    rw [e5] at g8
    have hr : a / B64 ^ (k + 1) % d < d := Nat.mod_lt _ hdp
    have a1 := fun lk H' => c_Div64 lk H' (a / B64 ^ (k + 1) % d) (a / B64 ^ k % B64) d hr (Nat.mod_lt _ (by decide)) hdB
    have hlen : k < (digsN da.length (a / B64 ^ (k + 1) / d * B64 ^ (k + 1))).length := by rw [digsN_len]; exact hk
    have hs1 := short_set da.length a d k hk (by
     have h3 : a / B64 ^ k % B64 < B64 := Nat.mod_lt _ (by decide)
     have h4 : (a / B64 ^ (k + 1) % d + 1) * B64 ≤ d * B64 := Nat.mul_le_mul_right _ hr
     rw [Nat.add_mul] at h4; omega)
    simp -dsimp only [go_sem, g0, g1, g6, g7, g8, q0u hp, q0u hq, wblk, hga k hk, gd, a1, hk, hlen, q0p _ _ _ hlen, digsN_len, e6]
    refine ⟨by decide, ?_⟩
    refine next k (by show k < k + 1; omega) ⟨by omega, ?_, g0, g1, g6, ?_, rfl⟩
    ·rw [hs1]
    ·rw [(short_step a d k).2]; rfl
   ·have : i = 0 := by omega
    subst this
    simp only [Nat.pow_zero, Nat.div_one, Nat.mul_one] at *
    have hdiv : a / d < B64 ^ da.length := Nat.lt_of_le_of_lt (Nat.div_le_self _ _) hal
    have ht := fun lk => w3s lk (H ++ [wblk (digsN da.length (a / d))]) H.length (digsN da.length (a / d)) da.length (by rw [digsN_len]; omega) (by omega) (by simp -dsimp only [go_sem, wblk])
    have ht2 := fun lk => w3s lk (H ++ [wblk (digsN da.length (a / d)), wblk [a % d]]) (H.length + 1) [a % d] 1 (by simp) (by omega) (by simp -dsimp only [go_sem, wblk])
    have f8 := trim_eq _ (digsN_lt da.length (a / d))
    have f9 := trim_len _ (digsN_lt da.length (a / d))
    rw [wval_digsN_of_lt hdiv, digsN_len] at f8 f9
    obtain ⟨f10, f11⟩ := digs_one (a % d) (Nat.lt_trans (Nat.mod_lt _ hdp) hdB)
    simp only [wblk, q1j, List.map_cons, List.map_nil] at ht ht2
    simp -dsimp only [go_sem, g0, g1, g6, g7, g8, wblk, q1j, ht, reps, ht2]
    have hv := compV_two (H := H ++ [wblk (digsN da.length (a / d)), wblk [a % d]]) (n0 := H.length) (b1 := H.length) (b2 := H.length + 1) (k1 := q1h (digsN da.length (a / d)) da.length) (k2 := q1h [a % d] 1) (w1 := digsN da.length (a / d)) (w2 := [a % d]) (Nat.le_refl _) (by omega) (by omega) (by simp -dsimp only [go_sem, wblk]) (by simp -dsimp only [go_sem, wblk]) (by rw [digsN_len]; exact q2v _ _) (q2v _ _)
    rw [f8, f9, f10, f11] at hv
    rw [f9, f11]
    exact ⟨_, _, hv, _, _, rfl, Or.inr ⟨H.length, rfl, by simp -dsimp only [go_sem, wblk]⟩, Or.inr ⟨H.length + 1, rfl, by simp -dsimp only [go_sem, wblk]⟩⟩
 ·obtain ⟨low, hn1⟩ := digs_low d hd
  have hn2 : 2 ≤ (digs d).length := by omega
  have hnl : (digs d).length ≤ (digs a).length := Nat.le_of_not_lt fun h => by have := digs_len_lt h; omega
  have hvg := vget d ((digs d).length - 1) (by omega)
  have htv : d / B64 ^ ((digs d).length - 1) % B64 = d / B64 ^ ((digs d).length - 1) := by
   apply Nat.mod_eq_of_lt
   have e9 : B64 ^ (digs d).length = B64 ^ ((digs d).length - 1) * B64 := by rw [← Nat.pow_succ]; congr 1; omega
   rw [Nat.div_lt_iff_lt_mul (Nat.pow_pos (by decide)), Nat.mul_comm, ← e9]
   exact lt_pow_digs d
  rw [htv] at hvg
  have htB : d / B64 ^ ((digs d).length - 1) < B64 := by rw [← htv]; exact Nat.mod_lt _ (by decide)
  have ht0 : d / B64 ^ ((digs d).length - 1) ≠ 0 := Nat.ne_of_gt (Nat.div_pos low (Nat.pow_pos (by decide)))
  obtain ⟨hs, htop, htop2⟩ := blen_top _ ht0 htB
  have hlz := fun lk H' => q7m lk H' (d / B64 ^ ((digs d).length - 1)) htB
  generalize 64 - blen (d / B64 ^ ((digs d).length - 1)) = s at *
  obtain ⟨hVB, hVl⟩ := norm_len d s _ hd rfl hs htop
  have hsh1 := fun lk => c_shiftUp lk H d q s hs (by omega) hq
  have hsh2 := fun lk => c_shiftUp lk (H ++ [wblk (digsN ((digs d).length + 1) (d * 2 ^ s))]) a p s hs (by omega) (q0u hp)
  have htr := fun lk => w3s lk (H ++ [wblk (digsN ((digs d).length + 1) (d * 2 ^ s))]) H.length (digsN ((digs d).length + 1) (d * 2 ^ s)) ((digs d).length + 1) (by rw [digsN_len]; omega) (by omega) (by simp -dsimp only [go_sem, wblk])
  have hVB1 : d * 2 ^ s < B64 ^ ((digs d).length + 1) := Nat.lt_of_lt_of_le hVB (Nat.pow_le_pow_right (by decide) (by omega))
  have f8 := trim_eq _ (digsN_lt ((digs d).length + 1) (d * 2 ^ s))
  have f9 := trim_len _ (digsN_lt ((digs d).length + 1) (d * 2 ^ s))
  rw [wval_digsN_of_lt hVB1, digsN_len, hVl] at f9
  rw [wval_digsN_of_lt hVB1, digsN_len] at f8
  simp only [f9] at htr
  have en1 : IntKind.i64.wrap (((digs d).length : Int) - 1) = (((digs d).length - 1 : Nat) : Int) := by rw [w64 (by omega) (by omega)]; omega
  have b1 : (digs d).length - 1 < (digs d).length := by omega
  have en2 : IntKind.i64.wrap (((digs a).length : Int) - ((digs d).length : Int)) = (((digs a).length - (digs d).length : Nat) : Int) := by rw [w64 (by omega) (by omega)]; omega
  have en3 : IntKind.i64.wrap ((((digs a).length - (digs d).length : Nat) : Int) + 1) = (((digs a).length - (digs d).length + 1 : Nat) : Int) := by rw [w64 (by omega) (by omega)]; omega
  have hq' : q0e H q = some ⟨q1j (digs d), 1, false⟩ := hq
  simp -dsimp only [go_sem, hq', hvg, hlz, en1, en2, en3, b1, hsh1, htr, hsh2]
  refine ⟨by omega, ?_⟩
  have hV0 : 0 < d * 2 ^ s := Nat.mul_pos hdp (Nat.pow_pos (by decide))
  have ei : IntKind.i64.wrap ((((digs a).length - (digs d).length : Nat) : Int)) = (((digs a).length - (digs d).length : Nat) : Int) := w64 (by omega) (by omega)
  refine q8u (fun σ H' => ∃ Q R, Long (a * 2 ^ s) (d * 2 ^ s) 0 Q R ∧ H' = H ++ [wblk (digsN ((digs d).length + 1) (d * 2 ^ s)), wblk (digsN ((digs a).length + 1) R), wblk (digsN ((digs a).length - (digs d).length + 1) Q)] ∧ σ 9 = .int .i64 (s : Int) ∧ σ 11 = .slice (some ⟨H.length + 1, 0, none⟩) ((digs a).length + 1) ((digs a).length + 1) ∧ σ 12 = .int .i64 ((digs d).length : Int) ∧ σ 13 = .slice (some ⟨H.length + 2, 0, none⟩) ((digs a).length - (digs d).length + 1) ((digs a).length - (digs d).length + 1)) ?_ ?_
  ·refine q0h (m := id) (I := fun i σ H' => ∃ Q R, i ≤ (digs a).length - (digs d).length + 1 ∧ Long (a * 2 ^ s) (d * 2 ^ s) i Q R ∧ H' = H ++ [wblk (digsN ((digs d).length + 1) (d * 2 ^ s)), wblk (digsN ((digs a).length + 1) R), wblk (digsN ((digs a).length - (digs d).length + 1) (Q * B64 ^ i))] ∧ σ 9 = .int .i64 (s : Int) ∧ σ 10 = .slice (some ⟨H.length, 0, none⟩) (digs d).length (digs d).length ∧ σ 11 = .slice (some ⟨H.length + 1, 0, none⟩) ((digs a).length + 1) ((digs a).length + 1) ∧ σ 12 = .int .i64 ((digs d).length : Int) ∧ σ 13 = .slice (some ⟨H.length + 2, 0, none⟩) ((digs a).length - (digs d).length + 1) ((digs a).length - (digs d).length + 1) ∧ σ 14 = .int .i64 ((i : Int) - 1)) ((digs a).length - (digs d).length + 1) ?_ ?_
   ·refine ⟨0, a * 2 ^ s, Nat.le_refl _, Long.start (lt_pow_digs a) low hn1 hnl, ?_, rfl, rfl, rfl, rfl, rfl, ?_⟩
    ·rw [Nat.zero_mul, digsN_zero, q3j]; rfl
    ·rw [show (((digs a).length - (digs d).length + 1 : Nat) : Int) - 1 = (((digs a).length - (digs d).length : Nat) : Int) by omega]; rfl
   ·rintro i σ H' ⟨Q, R, hi1, hlong, rfl, g9, g10, g11, g12, g13, g14⟩
    simp -dsimp only [go_sem, g14]
    refine q0y (fun hi => ?_) (fun hi => ?_)
    ·obtain ⟨k, rfl⟩ : ∃ k, i = k + 1 := ⟨i - 1, by omega⟩
     have e5 : ((k + 1 : Nat) : Int) - 1 = (k : Int) := by omega
     rw [e5] at g14
     obtain ⟨st1, st2⟩ := hlong.step hV0
     have hk : k < (digs a).length - (digs d).length + 1 := by omega
     have e6 : IntKind.i64.wrap ((k : Int) - 1) = (k : Int) - 1 := w64 (by omega) (by omega)
     have e7 : IntKind.i64.wrap ((k : Int) + ((digs d).length : Int)) = ((k + (digs d).length : Nat) : Int) := by rw [w64 (by omega) (by omega)]; omega
     have e8 : IntKind.i64.wrap (((k + (digs d).length : Nat) : Int) + 1) = ((k + (digs d).length + 1 : Nat) : Int) := by rw [w64 (by omega) (by omega)]; omega
     have e9 : k + (digs d).length + 1 - k = (digs d).length + 1 := by omega
     have hstep := c_step H.length (H ++ [wblk (digsN ((digs d).length + 1) (d * 2 ^ s)), wblk (digsN ((digs a).length + 1) R), wblk (digsN ((digs a).length - (digs d).length + 1) (Q * B64 ^ (k + 1)))]) (H.length + 1) H.length k ((digs a).length + 1) R (d * 2 ^ s) (digsN ((digs d).length + 1) (d * 2 ^ s)) (by omega) (by omega) (by rw [hVl]; exact hn2) (by rw [hVl]; omega) (by omega) hlong.lt (by simp -dsimp only [go_sem, wblk]) (by simp -dsimp only [go_sem, wblk]) (fun j hj => wget _ _ j (by rw [hVl] at hj; omega))
     rw [hVl] at hstep
     have hs1 := long_set ((digs a).length - (digs d).length + 1) Q (R / B64 ^ k / (d * 2 ^ s)) k hk st2
     have hlen : k < (digsN ((digs a).length - (digs d).length + 1) (Q * B64 ^ (k + 1))).length := by rw [digsN_len]; exact hk
     generalize R / B64 ^ k / (d * 2 ^ s) = qk at *
     generalize R - qk * (d * 2 ^ s) * B64 ^ k = R' at *
     have hw1 : ∀ l, (wblk l).sz = 1 := fun _ => rfl
     simp -dsimp only [go_sem, g9, g10, g11, g12, g13, g14, e6, e7, e8, e9, hstep, hw1]
     refine ⟨⟨by omega, by omega⟩, ?_⟩
     simp -dsimp only [go_sem, g9, g10, g11, g12, g13, g14, e6, wblk, hk, hlen, q0p _ _ _ hlen, digsN_len, ← hs1]
     refine ⟨by omega, ?_⟩
     exact next k (by show k < k + 1; omega) ⟨_, _, by omega, st1, rfl, g9, g10, g11, g12, g13, rfl⟩
    ·have : i = 0 := by omega
     subst this
     simp -dsimp only [go_sem]
     refine ⟨Q, R, hlong, ?_, g9, g11, g12, g13⟩
     rw [Nat.pow_zero, Nat.mul_one]
  ·rintro σ H' ⟨Q, R, hlong, rfl, g9, g11, g12, g13⟩
   obtain ⟨hQ, hR⟩ := hlong.fin
   have hRV : R < d * 2 ^ s := by have := hlong.lt; simpa using this
   have ms : min s 64 = s := Nat.min_eq_left (by omega)
   have m64 : min (64 - s) 64 = 64 - s := Nat.min_eq_left (by omega)
   have e64 : IntKind.i64.wrap (64 - (s : Int)) = ((64 - s : Nat) : Int) := by rw [w64 (by omega) (by omega)]; omega
   simp -dsimp only [go_sem, g12]
   refine q0h (m := fun i => (digs d).length - i) (I := fun i σ H' => i ≤ (digs d).length ∧ H' = H ++ [wblk (digsN ((digs d).length + 1) (d * 2 ^ s)), wblk (q5r R s ((digs a).length + 1) i), wblk (digsN ((digs a).length - (digs d).length + 1) Q)] ∧ σ 9 = .int .i64 (s : Int) ∧ σ 11 = .slice (some ⟨H.length + 1, 0, none⟩) ((digs a).length + 1) ((digs a).length + 1) ∧ σ 12 = .int .i64 ((digs d).length : Int) ∧ σ 13 = .slice (some ⟨H.length + 2, 0, none⟩) ((digs a).length - (digs d).length + 1) ((digs a).length - (digs d).length + 1) ∧ σ 96 = .int .i64 ((digs d).length : Int) ∧ σ 97 = .int .i64 (i : Int)) 0 ?_ ?_
   ·exact ⟨Nat.zero_le _, by rw [dnFill_zero], g9, g11, g12, g13, rfl, rfl⟩
   ·rintro i σ H' ⟨hi1, rfl, g9, g11, g12, g13, g96, g97⟩
    simp -dsimp only [go_sem, g96, g97]
    refine q0y (fun hi => ?_) (fun hi => ?_)
    ·have him : i < (digs a).length + 1 := by omega
     have him1 : i + 1 < (digs a).length + 1 := by omega
     have hlen : (q5r R s ((digs a).length + 1) i).length = (digs a).length + 1 := by unfold q5r; rw [digsN_len]
     obtain ⟨hl, hg⟩ := List.getElem?_eq_some_iff.1 (dnFill_get R s ((digs a).length + 1) i him)
     obtain ⟨hl1, hg1⟩ := List.getElem?_eq_some_iff.1 (dnFill_get1 R s ((digs a).length + 1) i him1)
     have hw := dn_word R s i (by omega)
     have hsucc := dnFill_succ R s ((digs a).length + 1) i him
     have e7 : IntKind.i64.wrap ((i : Int) + 1) = ((i + 1 : Nat) : Int) := by rw [w64 (by omega) (by omega)]; omega
     generalize q5r R s ((digs a).length + 1) i = dn at *
     have esh := u64shr dn[i] s
     have hll : List.length H ≤ List.length H + 1 := by omega
     by_cases hs0 : 0 < s
     ·have hs1 : (0 < (s : Int)) = True := by simp; omega
      have hi1x : (((i + 1 : Nat) : Int) < ((((digs a).length + 1 : Nat) : Int))) = True := by simp; omega
      have hl2 : i + 1 < (dn.set i (dn[i] / 2 ^ s)).length := by rw [List.length_set]; exact hl1
      have hl3 : i < (dn.set i (dn[i] / 2 ^ s)).length := by rw [List.length_set]; exact hl
      have g1 : (dn.set i (dn[i] / 2 ^ s))[i] = dn[i] / 2 ^ s := List.getElem_set_self _
      have g2 : (dn.set i (dn[i] / 2 ^ s))[i + 1] = dn[i + 1] := List.getElem_set_ne (by omega) _
      have esl := u64shl dn[i + 1] (64 - s)
      have hdl : dn[i] / 2 ^ s < 18446744073709551616 := Nat.lt_of_le_of_lt (Nat.div_le_self _ _) (by rw [hg]; exact Nat.mod_lt _ (by decide))
      have eor := w4n hdl (Nat.mod_lt (dn[i + 1] * 2 ^ (64 - s)) (show 0 < 18446744073709551616 by decide))
      have hor : dn[i] / 2 ^ s ||| dn[i + 1] * 2 ^ (64 - s) % 18446744073709551616 = R / 2 ^ s / B64 ^ i % B64 := by
       rw [hw, ← hg, ← hg1]
       exact dn_or _ _ s (by omega) (by rw [hg]; exact Nat.mod_lt _ (by decide))
      simp -dsimp only [go_sem, g9, g11, g12, g13, g96, g97, wblk, q0k _ _ hl, hl, him, him1, hlen, ms, m64, e64, e7, esh, q0p _ _ _ hl, hll, hs1, hi1x, q0k _ _ hl2, hl2, q0k _ _ hl3, hl3, g1, g2, esl, eor, hor, q0p _ _ _ hl3, List.set_set, ← hsucc]
      exact next (i + 1) (by show (digs d).length - (i + 1) < (digs d).length - i; omega) ⟨hi, rfl, g9, g11, g12, g13, g96, rfl⟩
     ·have hs1 : (0 < (s : Int)) = False := by simp; omega
      have hs00 : s = 0 := by omega
      subst hs00
      have hsame : dn[i] / 2 ^ 0 = R / 2 ^ 0 / B64 ^ i % B64 := by rw [Nat.pow_zero, Nat.div_one, Nat.div_one, hg]
      rw [← hsame, Nat.pow_zero, Nat.div_one] at hsucc
      have esh : ((dn[i] : Nat) : Int).fdiv 1 = ((dn[i] : Nat) : Int) := Int.fdiv_one _
      simp -dsimp only [go_sem, g9, g11, g12, g13, g96, g97, wblk, q0k _ _ hl, hl, him, him1, hlen, ms, m64, e64, e7, esh, q0p _ _ _ hl, hll, hs1, ← hsucc]
      exact next (i + 1) (by show (digs d).length - (i + 1) < (digs d).length - i; omega) ⟨hi, rfl, g9, g11, g12, g13, g96, rfl⟩
    ·have : i = (digs d).length := by omega
     subst this
     have hRn : R < B64 ^ (digs d).length := Nat.lt_trans hRV hVB
     have hR2 : R / 2 ^ s = a % d := by rw [hR, Nat.mul_div_cancel _ (Nat.pow_pos (by decide))]
     rw [dnFill_take R s _ _ (by omega) hRn, hR2, hQ]
     have hrl : a % d < B64 ^ (digs d).length := Nat.lt_trans (Nat.mod_lt _ hdp) (lt_pow_digs d)
     have hql : a / d < B64 ^ ((digs a).length - (digs d).length + 1) := by
      rw [Nat.div_lt_iff_lt_mul hdp]
      have h1 := lt_pow_digs a
      have h2 : B64 ^ (digs a).length = B64 ^ ((digs a).length - (digs d).length + 1) * B64 ^ ((digs d).length - 1) := by rw [← Nat.pow_add]; congr 1; omega
      have h3 : B64 ^ ((digs a).length - (digs d).length + 1) * B64 ^ ((digs d).length - 1) ≤ B64 ^ ((digs a).length - (digs d).length + 1) * d := Nat.mul_le_mul_left _ low
      omega
     obtain ⟨t1, t2⟩ := trim_pre ((digs a).length - (digs d).length + 1) _ (a / d) (Nat.le_refl _) hql
     obtain ⟨t3, t4⟩ := trim_pre ((digs a).length + 1) (digs d).length (a % d) (by omega) hrl
     have ht1 := fun lk => w3s lk (H ++ [wblk (digsN ((digs d).length + 1) (d * 2 ^ s)), wblk (digsN ((digs a).length + 1) (a % d)), wblk (digsN ((digs a).length - (digs d).length + 1) (a / d))]) (H.length + 2) (digsN ((digs a).length - (digs d).length + 1) (a / d)) ((digs a).length - (digs d).length + 1) (by rw [digsN_len]; omega) (by omega) (by simp -dsimp only [go_sem, wblk])
     have ht2 := fun lk => w3s lk (H ++ [wblk (digsN ((digs d).length + 1) (d * 2 ^ s)), wblk (digsN ((digs a).length + 1) (a % d)), wblk (digsN ((digs a).length - (digs d).length + 1) (a / d))]) (H.length + 1) (digsN ((digs a).length + 1) (a % d)) (digs d).length (by rw [digsN_len]; omega) (by omega) (by simp -dsimp only [go_sem, wblk])
     rw [t2] at ht1
     rw [t4] at ht2
     simp only [wblk] at ht1 ht2
     have hw1 : ∀ l, (wblk l).sz = 1 := fun _ => rfl
     have hdl : (digs d).length ≤ (digs a).length + 1 := by omega
     simp -dsimp only [go_sem, g9, g11, g12, g13, g96, g97, wblk, ht1, ht2, hdl]
     have hv := compV_two (H := H ++ [wblk (digsN ((digs d).length + 1) (d * 2 ^ s)), wblk (digsN ((digs a).length + 1) (a % d)), wblk (digsN ((digs a).length - (digs d).length + 1) (a / d))]) (n0 := H.length) (b1 := H.length + 2) (b2 := H.length + 1) (k1 := (digs (a / d)).length) (k2 := (digs (a % d)).length) (w1 := digsN ((digs a).length - (digs d).length + 1) (a / d)) (w2 := digsN ((digs a).length + 1) (a % d)) (by omega) (by omega) (by omega) (by simp -dsimp only [go_sem, wblk]) (by simp -dsimp only [go_sem, wblk]) (by rw [← t2]; rw [digsN_len]; exact q2v _ _) (by rw [← t4, digsN_len]; exact Nat.le_trans (q2v _ _) hdl)
     rw [t2] at t1
     rw [t4] at t3
     rw [t1, t3] at hv
     exact ⟨_, _, hv, _, _, rfl, Or.inr ⟨H.length, rfl, by simp -dsimp only [go_sem, wblk]⟩, Or.inr ⟨H.length + 1, rfl, by simp -dsimp only [go_sem, wblk]⟩⟩
theorem c_packW (lk : Nat) (H : Heap) (v : Value) (x : Nat) (hx : (digs x).length < 1000000000) (h : IsW H v x) : q0c prog md lk 210 [v] H = some (.string (mkS (q0b x)), H) := by
 rcases h with ⟨rfl, rfl⟩ | ⟨b, rfl, hb⟩
 ·rw [c86n, q1c]
 ·have := c_pack lk H b (digs x) (digs x).length (Nat.le_refl _) (by omega) (digs_lt x) hb
  rw [List.take_length, wval_digs] at this
  exact this
theorem digs_mono {a b : Nat} (h : a ≤ b) : (digs a).length ≤ (digs b).length := by
 apply Nat.le_of_not_lt
 intro hl
 have := digs_len_lt hl
 omega
theorem c_NatDivMod (lk : Nat) (H : Heap) (a b : Nat) (hb : b ≠ 0) (hla : (q0b a).length < 100000000) (hlb : (q0b b).length < 100000000) :
  q0c prog md lk 209 [.string (mkS (q0b a)), .string (mkS (q0b b))] H = some (.tuple #[.string (mkS (q0b (a / b))), .string (mkS (q0b (a % b)))], H) := by
 refine q0a rfl Tryz.func209 rfl rfl ?_
 have hA := fun lk => q6j lk H (q0b a) (by omega)
 have hB := fun lk => q6j lk (H ++ [wblk (digs a)]) (q0b b) (by omega)
 simp only [q1d] at hA hB
 have la := digs_len_bytes a
 have hd := fun lk => c_divide lk (H ++ [wblk (digs a), wblk (digs b)]) a b H.length (H.length + 1) hb (by omega) (by simp -dsimp only [go_sem, wblk]) (by simp -dsimp only [go_sem, wblk])
 obtain ⟨v, N, h1, v1, v2, rfl, h2, h3⟩ := hd H.length
 have l1 := digs_mono (Nat.div_le_self a b)
 have l2 := digs_mono (Nat.mod_le a b)
 have p1 := fun lk => c_packW lk _ v1 _ (by omega) h2
 have p2 := fun lk => c_packW lk _ v2 _ (by omega) h3
 simp only [List.append_assoc, List.cons_append, List.nil_append] at h1 p1 p2
 simp -dsimp only [go_sem, hA, hB, h1, p1, p2]
theorem c_NatGcd (lk : Nat) (H : Heap) (a b : Nat) (hla : (q0b a).length < 100000000) (hlb : (q0b b).length < 100000000) :
  q0c prog md lk 208 [.string (mkS (q0b a)), .string (mkS (q0b b))] H = some (.string (mkS (q0b (Nat.gcd a b))), H) := by
 refine q0a rfl Tryz.func208 rfl rfl ?_
 have hA := fun lk => q6j lk H (q0b a) (by omega)
 have hB := fun lk => q6j lk (H ++ [wblk (digs a)]) (q0b b) (by omega)
 simp only [q1d] at hA hB
 have la := digs_len_bytes a
 have lb := digs_len_bytes b
 simp -dsimp only [go_sem, hA, hB]
 refine q0h (m := fun (s : Nat × Nat) => s.2) (I := fun s σ H' => Nat.gcd s.1 s.2 = Nat.gcd a b ∧ (digs s.1).length < 100000000 ∧ (∃ p, σ 5 = .slice (some ⟨p, 0, none⟩) (digs s.1).length (digs s.1).length ∧ q0e H' p = some (wblk (digs s.1))) ∧ IsW H' (σ 6) s.2 ∧ (digs s.2).length < 100000000) (a, b) ?_ ?_
 ·exact ⟨rfl, by simp only []; omega, ⟨_, rfl, by simp -dsimp only [go_sem, wblk]⟩, .inr ⟨_, rfl, by simp -dsimp only [go_sem, wblk]⟩, by simp only []; omega⟩
 ·rintro ⟨x, y⟩ σ H' ⟨h1, h2, ⟨p, h5, hp⟩, h6, h7⟩
  simp only [] at h1 h2 h5 h6 h7 hp
  by_cases hy : y = 0
  ·subst hy
   rw [Nat.gcd_zero_right] at h1
   subst h1
   have hp := fun lk => c_packW lk H' _ _ (by omega) (.inr ⟨p, rfl, hp⟩)
   have e0 : σ 6 = .slice none 0 0 ∨ ∃ q, σ 6 = .slice (some ⟨q, 0, none⟩) 0 0 := by
    rcases h6 with ⟨h, _⟩ | ⟨q, h, _⟩
    ·exact .inl h
    ·rw [digs_zero] at h; exact .inr ⟨q, h⟩
   rcases e0 with e0 | ⟨q, e0⟩
   ·simp -dsimp only [go_sem, e0, h5, hp, Int.natCast_zero, Int.lt_irrefl]
   ·simp -dsimp only [go_sem, e0, h5, hp, Int.natCast_zero, Int.lt_irrefl]
  ·rcases h6 with ⟨_, h⟩ | ⟨q, h6, hq⟩
   ·exact absurd h hy
   have hl : (0 < ((digs y).length : Int)) = True := by rw [digs_pos hy]; simp
   obtain ⟨v, N, k1, v1, v2, rfl, k2, k3⟩ := c_divide H.length H' x y p q hy (by omega) hp hq
   simp -dsimp only [go_sem, h5, h6, hl, k1]
   refine next (y, x % y) (by show x % y < y; exact Nat.mod_lt _ (Nat.pos_of_ne_zero hy)) ⟨?_, h7, ⟨q, rfl, q0u hq⟩, k3, ?_⟩
   ·simp only []; rw [← h1, Nat.gcd_comm x y, Nat.gcd_rec y x, Nat.gcd_comm]
   ·exact Nat.lt_of_le_of_lt (digs_mono (Nat.le_of_lt (Nat.mod_lt _ (Nat.pos_of_ne_zero hy)))) h7
theorem c_NatOf (lk : Nat) (H : Heap) (u : Nat) (hu : u < B64) : q0c prog md lk 201 [.int .u64 (u : Int)] H = some (.string (mkS (q0b u)), H) := by
 refine q0a rfl Tryz.func201 rfl rfl ?_
 have hp := fun lk => c_pack lk (H ++ [wblk [u]]) H.length [u] 1 (Nat.le_refl _) (by omega) (by simpa using hu) (by simp -dsimp only [go_sem, wblk])
 simp only [wblk, q1j, List.map_cons, List.map_nil] at hp
 simp -dsimp only [go_sem, reps, hp, List.take, wval, Nat.mul_zero]
end Gx
end
