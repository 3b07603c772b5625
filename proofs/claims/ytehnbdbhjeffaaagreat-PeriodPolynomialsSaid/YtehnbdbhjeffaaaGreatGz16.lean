/- Lemmas for the row: plain facts, or contracts of functions. -/
import Derived.Test.YtehnbdbhjeffaaaGreatGz14
import Derived.Test.YtehnbdbhjeffaaaGreatGz15
set_option linter.all false
section
set_option autoImplicit false
namespace Gx
open Go Go.Proofs
open Go.Proofs.Tryz (prog)
set_option maxRecDepth 10000
theorem q3o (lk : Nat) (H : Heap) (b : Bool) (n : Nat) : q0c prog md lk 157 [.bool b, .string (mkS (q0b n))] H = some (vI (sg b n), H) := by
 rw [c_IntMake, vI_make]
theorem u64_neg {x : Int} (h1 : x < 0) (h2 : -9223372036854775808 ≤ x) : IntKind.u64.wrap (0 - IntKind.u64.wrap x) = ((x.natAbs : Nat) : Int) := by
 rw [IntKind.wrap_u64, IntKind.wrap_u64]; omega
theorem u64_pos {x : Int} (h1 : 0 ≤ x) (h2 : x ≤ 9223372036854775807) : IntKind.u64.wrap x = ((x.natAbs : Nat) : Int) := by
 rw [IntKind.wrap_u64]; omega
abbrev I64 (x : Int) : Prop := -9223372036854775808 ≤ x ∧ x ≤ 9223372036854775807
theorem c_IntOf (lk : Nat) (H : Heap) (x : Int) (hx : I64 x) : q0c prog md lk 152 [.int .i64 x] H = some (vI x, H) := by
 refine q0a rfl Tryz.func152 rfl rfl ?_
 obtain ⟨h1, h2⟩ := hx
 by_cases h : x < 0
 ·have hn := fun lk H' => c_NatOf lk H' x.natAbs (by simp only [B64]; omega)
  simp -dsimp only [go_sem, h, u64_neg h h1, hn]
  rw [vI_neg _ (by omega), show -(x.natAbs : Int) = x by omega]
 ·have hn := fun lk H' => c_NatOf lk H' x.natAbs (by simp only [B64]; omega)
  simp -dsimp only [go_sem, h, u64_pos (Int.not_lt.1 h) h2, hn]
  rw [vI_pos, show (x.natAbs : Int) = x by omega]
theorem sg_neg (b : Bool) (n : Nat) : sg (!b) n = -sg b n := by unfold sg; cases b <;> simp
def vR (q : Rat) : Value := .agg #[.bool (decide (q.num < 0)), .string (mkS (q0b q.num.natAbs)), .string (mkS (q0b q.den))]
@[go_sem] theorem icells_vR (q : Rat) : q3d (vR q) = some [.bool (decide (q.num < 0)), .string (mkS (q0b q.num.natAbs)), .string (mkS (q0b q.den))] := rfl
@[go_sem] theorem vR_fold (q : Rat) : Value.agg (List.toArray [.bool (decide (q.num < 0)), .string (mkS (q0b q.num.natAbs)), .string (mkS (q0b q.den))]) = vR q := rfl
@[go_sem] theorem kokV_vR (q : Rat) : kokV (vR q) = true := rfl
theorem vR_mk (q : Rat) (z : Int) (d : Nat) (hz : q.num = z) (hd : q.den = d) : Value.agg (List.toArray [.bool (decide (z < 0)), .string (mkS (q0b z.natAbs)), .string (mkS (q0b d))]) = vR q := by subst hz; subst hd; rfl
theorem sk_R : q5m prog 55 = some [0, 2, 2] := by kernel_rfl
theorem eqR (a b : Rat) : q0q [0, 2, 2] [.bool (decide (a.num < 0)), .string (mkS (q0b a.num.natAbs)), .string (mkS (q0b a.den))] [.bool (decide (b.num < 0)), .string (mkS (q0b b.num.natAbs)), .string (mkS (q0b b.den))] = some (decide (a = b)) := by
 simp only [q8h, w0r, w0t, Option.map_some, Bool.and_true, q1f]
 congr 1
 apply Bool.eq_iff_iff.2
 rw [Bool.and_eq_true, Bool.and_eq_true, decide_eq_true_eq, decide_eq_true_eq, decide_eq_true_eq, beq_iff_eq]
 exact ⟨fun ⟨x, y, z⟩ => Rat.ext (vI_inj x y) z, fun h => by subst h; exact ⟨rfl, rfl, rfl⟩⟩
@[go_sem] theorem vR_eql (a b : Rat) : ibin prog .eql 55 (vR a) (vR b) = some (.bool (decide (a = b))) := by
 unfold vR; rw [ibin_eqa, sk_R]; simp only [eqR, Option.map_some]
@[go_sem] theorem vR_neq (a b : Rat) : ibin prog .neq 55 (vR a) (vR b) = some (.bool (!decide (a = b))) := by
 unfold vR; rw [ibin_nea, sk_R]; simp only [eqR, Option.map_some]
theorem sg_div (s : Bool) (n g : Nat) (h : g ∣ n) : sg s n / (g : Int) = sg s (n / g) := by
 unfold sg
 split
 ·rw [Int.neg_ediv_of_dvd (Int.natCast_dvd_natCast.2 h), Int.natCast_ediv]
 ·rw [Int.natCast_ediv]
theorem sign_sg (a b : Int) (hb : b ≠ 0) : b.sign * a = sg (!(decide (a < 0) == decide (b < 0))) a.natAbs := by
 unfold sg
 by_cases h : b < 0
 ·rw [Int.sign_eq_neg_one_of_neg h, decide_eq_true h]
  by_cases h2 : a < 0
  ·rw [decide_eq_true h2, if_neg (by decide)]; omega
  ·rw [decide_eq_false h2, if_pos (by decide)]; omega
 ·rw [Int.sign_eq_one_of_pos (by omega), decide_eq_false h]
  by_cases h2 : a < 0
  ·rw [decide_eq_true h2, if_pos (by decide)]; omega
  ·rw [decide_eq_false h2, if_neg (by decide)]; omega
theorem w4g (a b : Int) (hb : b ≠ 0) : (Rat.divInt a b).num = sg (!(decide (a < 0) == decide (b < 0))) (a.natAbs / Nat.gcd a.natAbs b.natAbs) ∧ (Rat.divInt a b).den = b.natAbs / Nat.gcd a.natAbs b.natAbs := by
 have e : b.gcd a = Nat.gcd a.natAbs b.natAbs := Nat.gcd_comm _ _
 rw [Rat.num_divInt, Rat.den_divInt, if_neg hb, e, sign_sg a b hb, sg_div _ _ _ (Nat.gcd_dvd_left _ _)]
 exact ⟨rfl, rfl⟩
theorem bytes_one : q0b 1 = [1] := by rw [q5t (by decide)]; simp [q1c]
theorem c_Make (lk : Nat) (H : Heap) (a b : Int) (hb : b ≠ 0) (hla : (q0b a.natAbs).length < 10000000) (hlb : (q0b b.natAbs).length < 10000000) : q0c prog md lk 156 [vI a, vI b] H = some (vR (Rat.divInt a b), H) := by
 refine q0a rfl Tryz.func156 rfl rfl ?_
 have tb : tbool prog 4 = true := by kernel_rfl
 have hbn : b.natAbs ≠ 0 := by omega
 have hg0 : Nat.gcd a.natAbs b.natAbs ≠ 0 := by
  intro h; exact hbn (Nat.eq_zero_of_gcd_eq_zero_right h)
 have lg := q8p (Nat.gcd_le_right (n := b.natAbs) a.natAbs (by omega))
 have k1 := fun lk H' => c_NatGcd lk H' a.natAbs b.natAbs (by omega) (by omega)
 have k2 := fun lk H' => c_NatDivMod lk H' a.natAbs (Nat.gcd a.natAbs b.natAbs) hg0 (by omega) (by omega)
 have k3 := fun lk H' => c_NatDivMod lk H' b.natAbs (Nat.gcd a.natAbs b.natAbs) hg0 (by omega) (by omega)
 obtain ⟨r1, r2⟩ := w4g a b hb
 have one : [1] = q0b 1 := bytes_one.symm
 by_cases hg : Nat.gcd a.natAbs b.natAbs = 1
 ·rw [hg, Nat.div_one] at r1 r2
  rw [hg] at k1
  simp -dsimp only [go_sem, k1, one, tb, q3o]
  exact vR_mk _ _ _ r1 r2
 ·simp -dsimp only [go_sem, k1, k2, k3, one, hg, tb, q3o]
  exact vR_mk _ _ _ r1 r2
theorem bl_int {x : Int} (h : I64 x) : (q0b x.natAbs).length ≤ 8 := bl_small (by omega)
theorem sg_mul (z : Int) (d : Nat) : sg (decide (z < 0)) (z.natAbs * d) = z * d := by
 have h := sg_self z
 unfold sg at *
 split
 ·rename_i h1; rw [if_pos h1] at h; conv => rhs; rw [← h]
  rw [Int.natCast_mul, Int.neg_mul]
 ·rename_i h1; rw [if_neg h1] at h; conv => rhs; rw [← h]
  rw [Int.natCast_mul]
instance : Enc Nat := ⟨fun w => [.int .u64 (w : Int)], 1, fun _ => rfl⟩
theorem cells_w (ws : List Nat) : q0g ws = q1j ws := by
 induction ws with
 | nil => rfl
 | cons w ws ih => rw [q1i, ih]; rfl
theorem lblk_w (ws : List Nat) : lblk ws = wblk ws := by unfold lblk wblk; rw [cells_w]; rfl
theorem SL.word {H : Heap} {a : Option Addr} {ws : List Nat} (h : SL H a ws) (i : Nat) (hi : i < ws.length) : ∃ b o B, a = some ⟨b, o, none⟩ ∧ q0e H b = some B ∧ B.sz = 1 ∧ B.c[o + i]? = some (.int .u64 (ws[i] : Int)) := h.get1 rfl i hi _ rfl
theorem r1_trim (lk : Nat) (H : Heap) (a : Option Addr) (ws : List Nat) (n : Nat) (hn : n = ws.length) (hl : n < 4000000000) (hs : SL H a ws) :
  q0c prog md lk 234 [.slice a n n] H = some (.slice a (q1h ws n) (q1h ws n), H) := by
 subst hn
 have e : H = H ++ [] := (List.append_nil H).symm
 conv => rhs; rw [e]
 refine q4x rfl Tryz.func234 rfl ?_
 have hfin : q4i H H.length (.slice a (q1h ws ws.length) (q1h ws ws.length)) = some (.slice a (q1h ws ws.length) (q1h ws ws.length), []) := by
  rcases hs with ⟨rfl, rfl⟩ | ⟨b, o, B, rfl, h2, _⟩
  ·rfl
  ·simp [q4i, w1w, q2f, q0w h2]
 simp -dsimp only [go_sem]
 refine q0h (m := id) (I := fun k σ H' => k ≤ ws.length ∧ q1h ws k = q1h ws ws.length ∧ H = H' ∧ σ 0 = .slice a k k) ws.length ⟨Nat.le_refl _, rfl, rfl, rfl⟩ ?_
 rintro k σ H' ⟨h1, h2, rfl, h0⟩
 by_cases hk : k = 0
 ·subst hk
  simp -dsimp only [go_sem, h0, Int.lt_irrefl]
  rw [show (q1h ws 0) = 0 from rfl] at h2
  rw [← h2] at hfin ⊢
  exact hfin
 ·obtain ⟨j, rfl⟩ : ∃ j, k = j + 1 := ⟨k - 1, by omega⟩
  have hj : j < ws.length := by omega
  obtain ⟨b, o, B, rfl, hB, hz, hg⟩ := hs.word j hj
  have e1 : IntKind.i64.wrap (((j + 1 : Nat) : Int) - 1) = (j : Int) := by rw [w64 (by omega) (by omega)]; omega
  have hp : (0 < ((j + 1 : Nat) : Int)) = True := by simp
  have hB2 := q2y hB
  have e3 : q1h ws (j + 1) = if ws[j] = 0 then q1h ws j else j + 1 := by simp [q1h, List.getD, hj]
  by_cases hz0 : ws[j] = 0
  ·rw [if_pos hz0] at e3
   have hc : ((ws[j] : Nat) : Int) = 0 := by omega
   have hle : j ≤ j + 1 := by omega
   simp -dsimp only [go_sem, h0, hp, e1, hB, hB2, hz, hg, hc]
   exact ⟨Nat.lt_succ_self j, next j (by show j < j + 1; omega) ⟨by omega, by rw [← e3, h2], rfl, rfl⟩⟩
  ·rw [if_neg hz0] at e3
   have hc : (((ws[j] : Nat) : Int) = 0) = False := by simp; omega
   simp -dsimp only [go_sem, h0, hp, e1, hB, hB2, hz, hg, hc]
   rw [← h2, e3] at hfin ⊢
   exact ⟨Nat.lt_succ_self j, hfin⟩
def mkA {α : Type} (H : Heap) (l : List α) : Option Addr := if l.isEmpty = true then none else some ⟨H.length, 0, none⟩
def mkN {α : Type} [Enc α] (l : List α) : List Blk := if l.isEmpty = true then [] else [lblk l]
theorem mk_own {α : Type} [Enc α] (H : Heap) (l : List α) : Own H.length (H ++ mkN l) (mkA H l) l := by
 cases l with
 | nil => exact .inl ⟨rfl, rfl⟩
 | cons x l => exact .inr ⟨H.length, rfl, Nat.le_refl _, q0j _ _⟩
theorem mk_sl {α : Type} [Enc α] (H : Heap) (l : List α) : SL (H ++ mkN l) (mkA H l) l := (mk_own H l).sl
theorem q5z (lk : Nat) (H : Heap) (n : Nat) (hl : (q0b n).length < 1000000000) :
  q0c prog md lk 224 [.string (mkS (q0b n))] H = some (.slice (mkA H (L.digs n)) (L.digs n).length (L.digs n).length, H ++ mkN (L.digs n)) := by
 refine q4x rfl Tryz.func224 rfl ?_
 have hbv := q1d n
 have hnil := q1b n
 generalize q0b n = l at *
 simp -dsimp only [go_sem]
 refine q0h (m := fun (x : Nat × Option Addr) => l.length + 4 - 4 * x.1) (I := fun x σ H' => 4 * x.1 < l.length + 4 ∧ (x.1 = 0 ↔ x.2 = none) ∧ Ext H H' ∧ Own H.length H' x.2 (L.digsN x.1 n) ∧ σ 0 = .string (mkS l) ∧ σ 3 = .slice x.2 x.1 x.1 ∧ σ 4 = .int .i64 ((l.length : Int) - 4 * (x.1 : Int))) (0, none) ?_ ?_
 ·exact ⟨by simp only []; omega, by simp, Ext.refl _, Own.nil, rfl, rfl, by simp [upd]⟩
 ·rintro ⟨m, a⟩ σ H' ⟨h1, ha, hE, hO, h0, h3, h4⟩
  simp only [] at h1 ha hE hO h3 h4
  by_cases hm : 4 * m < l.length
  ·obtain ⟨e, he⟩ : ∃ e, l.length = e + 4 * m := ⟨l.length - 4 * m, by omega⟩
   have e1 : (l.length : Int) - 4 * (m : Int) = (e : Int) := by omega
   have e2 : IntKind.i64.wrap ((e : Int) - 4) = (e : Int) - 4 := w64 (by omega) (by omega)
   have e3 : (if (e : Int) - 4 > 0 then (e : Int) - 4 else 0) = ((e - 4 : Nat) : Int) := by split <;> omega
   have hp : (0 < (e : Int)) = True := by simp; omega
   rw [e1] at h4
   simp -dsimp only [go_sem, h4, hp, e2]
   refine q0h (m := fun i => e - i) (I := fun i σ H2 => e - 4 ≤ i ∧ i ≤ e ∧ H2 = H' ∧ σ 0 = .string (mkS l) ∧ σ 3 = .slice a m m ∧ σ 4 = .int .i64 (e : Int) ∧ σ 5 = .int .u64 ((bval (l.take i) % 256 ^ (i - (e - 4)) : Nat) : Int) ∧ σ 6 = .int .i64 (i : Int)) (e - 4) ?_ ?_
   ·refine ⟨Nat.le_refl _, by omega, rfl, h0, h3, h4, ?_, ?_⟩
    ·simp [upd, Nat.mod_one]
    ·simp only [upd, if_true, e3]
   ·rintro i σ H2 ⟨i1, i2, rfl, h0, h3, h4, h5, h6⟩
    simp -dsimp only [go_sem, h4, h6]
    refine q0y (fun hi => ?_) (fun hi => ?_)
    ·have hil : i < l.length := by omega
     have hil2 : ((i : Int) < (l.length : Int)) = True := by simp; omega
     have hb : l[i].toNat < 256 := l[i].toNat_lt
     have hd := L.dig_step l (e - 4) i i1 hil
     have hdl := L.dig_lt (bval (l.take i)) (i - (e - 4)) (by omega)
     simp only [L.B32] at hdl
     have c1 : IntKind.u64.wrap (((bval (l.take i) % 256 ^ (i - (e - 4)) : Nat) : Int) * 256) = ((bval (l.take i) % 256 ^ (i - (e - 4)) * 256 : Nat) : Int) := by
      rw [IntKind.wrap_u64]; omega
     have c2 : IntKind.u64.wrap ((l[i].toNat : Nat) : Int) = ((l[i].toNat : Nat) : Int) := u64n (by omega)
     have c3 : IntKind.u64.wrap (((bval (l.take i) % 256 ^ (i - (e - 4)) * 256 : Nat) : Int) + ((l[i].toNat : Nat) : Int)) = ((bval (l.take (i + 1)) % 256 ^ (i + 1 - (e - 4)) : Nat) : Int) := by
      rw [IntKind.wrap_u64, hd]; omega
     have c4 : IntKind.i64.wrap ((i : Int) + 1) = ((i + 1 : Nat) : Int) := by rw [w64 (by omega) (by omega)]; omega
     simp -dsimp only [go_sem, h0, h3, h4, h5, h6, hil, byt_mkS l i hil, c1, c2, c3, c4]
     exact next (i + 1) (by show e - (i + 1) < e - i; omega) ⟨by omega, by omega, rfl, h0, h3, h4, rfl, rfl⟩
    ·have : i = e := by omega
     subst this
     have hlast := L.dig_last l m i he.symm
     rw [hbv] at hlast
     rw [hlast] at h5
     have e5 : IntKind.i64.wrap ((i : Int) - 4) = (i : Int) - 4 := e2
     have hap := fun t t2 => ap_own (P := prog) (lk := H.length) (t := t) (t2 := t2) hO (Nat.le_refl _) (L.digsN_len m n).symm [.int .u64 ((n / L.B32 ^ m % L.B32 : Nat) : Int)] 1 rfl rfl
     simp -dsimp only [go_sem, h0, h3, h4, h5, h6, e5, reps, hap]
     refine ⟨by omega, ?_⟩
     have hO2 := q9p (lo := H.length) (H := H2) (a := a) (l := L.digsN m n) (n / L.B32 ^ m % L.B32) [⟨[.int .u64 ((n / L.B32 ^ m % L.B32 : Nat) : Int)], 1, false⟩] (by have := hE.le; simp; omega)
     have hE2 : Ext H (kill (H2 ++ [⟨[.int .u64 ((n / L.B32 ^ m % L.B32 : Nat) : Int)], 1, false⟩]) a) := (hO.more _).kill (hE.more _)
     rw [L.digsN_snoc] at hO2
     refine next (m + 1, some ⟨H2.length + 1, 0, none⟩) (by show l.length + 4 - 4 * (m + 1) < l.length + 4 - 4 * m; omega) ⟨by simp only []; omega, by simp, hE2.more _, hO2, h0, rfl, ?_⟩
     simp only [upd, if_true]
     congr 1; omega
  ·have hp : (0 < (l.length : Int) - 4 * (m : Int)) = False := by simp; omega
   have hlt := L.all_read l m (by omega)
   rw [hbv] at hlt
   have ht := fun lk => r1_trim lk H' a (L.digsN m n) m (L.digsN_len m n).symm (by omega) hO.sl
   have t1 := L.trim_eq _ (L.digsN_lt m n)
   have t2 := L.trim_len _ (L.digsN_lt m n)
   rw [L.digsN_wval m n hlt, L.digsN_len] at t1 t2
   rw [t2] at ht
   simp -dsimp only [go_sem, h0, h3, h4, hp, ht]
   rcases hO with ⟨rfl, h⟩ | ⟨b, rfl, h7, h8⟩
   ·have : m = 0 := ha.2 rfl
    subst this
    have hn : n = 0 := by simpa using hlt
    subst hn
    rw [L.digs_zero]; rfl
   ·have hm0 : m ≠ 0 := fun h => by have := ha.1 h; cases this
    have hn : n ≠ 0 := by
     intro h; have : l.length = 0 := by rw [hnil.2 h]; rfl
     omega
    have hne : (L.digs n).isEmpty = false := by
     cases hh : L.digs n with
     | nil => have : (L.digs n).length = 0 := by rw [hh]; rfl
              exact absurd (L.digs_nil.1 this) hn
     | cons x r => rfl
    have e6 : ((lblk (L.digsN m n)).c.drop 0).take ((L.digs n).length * (lblk (L.digsN m n)).sz) = q0g (L.digs n) := by
     rw [t2] at t1
     rw [List.drop_zero, q6s, w2x, q9j]
     exact congrArg q0g t1
    have hle : (L.digs n).length ≤ m := by rw [← t2]; exact q2v _ _
    rw [compV_new h7 h8 (by rw [q6s, w2x, q1l, L.digsN_len]; have := Nat.mul_le_mul_right (Enc.n Nat) hle; omega) (by rw [e6, cells_w]; exact w1a _), e6]
    unfold mkA mkN
    rw [hne]; rfl
instance : Enc UInt8 := ⟨fun b => [.int .u8 (b.toNat : Int)], 1, fun _ => rfl⟩
theorem cells_b (l : List UInt8) : q0g l = q4a l := by
 induction l with
 | nil => rfl
 | cons w ws ih => rw [q1i, ih]; rfl
theorem pack_len (ws : List Nat) (hw : ∀ w ∈ ws, w < L.B32) (i : Nat) (hi : i < ws.length) (j : Nat) (hj : j ≤ 4) :
  (q0b (L.wval (ws.drop (i + 1)) * 256 ^ j + ws[i] / 256 ^ (4 - j))).length ≤ 4 * ws.length := by
 have h1 := L.wval_drop ws i hi
 have h2 : L.wval (ws.drop i) < 256 ^ (4 * ws.length) := by
  have := L.wval_lt (ws.drop i) (fun w h => hw w (List.mem_of_mem_drop h))
  rw [Nat.pow_mul, show 256 ^ 4 = L.B32 from rfl]
  exact Nat.lt_of_lt_of_le this (Nat.pow_le_pow_right (by decide) (by rw [List.length_drop]; omega))
 refine w0w (Nat.lt_of_le_of_lt ?_ h2)
 rw [h1]
 have h3 : 256 ^ j ≤ 256 ^ 4 := Nat.pow_le_pow_right (by decide) hj
 have h4 := Nat.mul_le_mul_left (L.wval (ws.drop (i + 1))) h3
 have h5 := Nat.div_le_self ws[i] (256 ^ (4 - j))
 rw [show 256 ^ 4 = L.B32 from rfl, Nat.mul_comm _ L.B32] at h4
 omega
theorem w0i (lk : Nat) (H : Heap) (a : Option Addr) (ws : List Nat) (k : Nat) (hk : k = ws.length) (hl : k < 1000000000) (hw : ∀ w ∈ ws, w < L.B32) (hs : SL H a ws) :
  q0c prog md lk 190 [.slice a k k] H = some (.string (mkS (q0b (L.wval ws))), H) := by
 subst hk
 refine q0a rfl Tryz.func190 rfl rfl ?_
 have e0 : IntKind.i64.wrap ((ws.length : Int) - 1) = (ws.length : Int) - 1 := w64 (by omega) (by omega)
 simp -dsimp only [go_sem, e0]
 refine q0h (m := fun (x : Nat × Option Addr) => x.1) (I := fun x σ H' => x.1 ≤ ws.length ∧ Ext H H' ∧ Own H.length H' x.2 (q0b (L.wval (ws.drop x.1))) ∧ σ 0 = .slice a ws.length ws.length ∧ σ 3 = .slice x.2 ((q0b (L.wval (ws.drop x.1))).length) ((q0b (L.wval (ws.drop x.1))).length) ∧ σ 4 = .int .i64 ((x.1 : Int) - 1)) (ws.length, none) ?_ ?_
 ·refine ⟨Nat.le_refl _, Ext.refl _, ?_, rfl, ?_, rfl⟩
  ·simp only [List.drop_length, L.wval, q1c]; exact Own.nil
  ·simp only [List.drop_length, L.wval, q1c]; rfl
 ·rintro ⟨i', a2⟩ σ H' ⟨h1, hE, hO, h0, h3, h4⟩
  simp only [] at h1 hO h3 h4
  by_cases hi : i' = 0
  ·subst hi
   rw [List.drop_zero] at hO h3
   rw [show ((0 : Nat) : Int) - 1 = -1 from rfl] at h4
   rcases hO with ⟨rfl, h⟩ | ⟨b, rfl, h7, h8⟩
   ·rw [h] at h3
    simp -dsimp only [go_sem, h3, h4, List.length_nil, q5u, h]
   ·have h9 : ((q0b (L.wval ws)).length = 0) = False ∨ (q0b (L.wval ws)).length = 0 := by
     by_cases h : (q0b (L.wval ws)).length = 0
     ·exact .inr h
     ·exact .inl (by simp only [h])
    have hsub : isub (lblk (q0b (L.wval ws))).c 0 ((q0b (L.wval ws)).length) = some (q4a (q0b (L.wval ws))) := by
     rw [q6s, cells_b]; exact isub_all _ _ (bcells_len _)
    have hz : (lblk (q0b (L.wval ws))).sz = 1 := rfl
    rcases h9 with h9 | h9
    ·simp -dsimp only [go_sem, h3, h4, h9, h8, hz, hsub, q9u]
    ·have h10 : q0b (L.wval ws) = [] := List.length_eq_zero_iff.1 h9
     rw [h9] at h3
     simp -dsimp only [go_sem, h3, h4, q5u, h10]
  ·obtain ⟨i, rfl⟩ : ∃ i, i' = i + 1 := ⟨i' - 1, by omega⟩
   have hi2 : i < ws.length := by omega
   have e1 : ((i + 1 : Nat) : Int) - 1 = (i : Int) := by omega
   have hp : (0 ≤ (i : Int)) = True := by simp
   obtain ⟨b, o, B, rfl, hB, hz, hg⟩ := hs.word i hi2
   rw [e1] at h4
   simp -dsimp only [go_sem, h4, hp]
   refine q0h (m := fun (x : Nat × Option Addr) => 4 - x.1) (I := fun x σ H2 => x.1 ≤ 4 ∧ Ext H H2 ∧ Own H.length H2 x.2 (q0b (L.wval (ws.drop (i + 1)) * 256 ^ x.1 + ws[i] / 256 ^ (4 - x.1))) ∧ σ 0 = .slice (some ⟨b, o, none⟩) ws.length ws.length ∧ σ 3 = .slice x.2 ((q0b (L.wval (ws.drop (i + 1)) * 256 ^ x.1 + ws[i] / 256 ^ (4 - x.1))).length) ((q0b (L.wval (ws.drop (i + 1)) * 256 ^ x.1 + ws[i] / 256 ^ (4 - x.1))).length) ∧ σ 4 = .int .i64 (i : Int) ∧ σ 5 = .int .i64 (24 - 8 * (x.1 : Int))) (0, a2) ?_ ?_
   ·have hz0 : ws[i] / 256 ^ 4 = 0 := Nat.div_eq_of_lt (hw _ (List.getElem_mem hi2))
    refine ⟨by omega, hE, ?_, h0, ?_, h4, rfl⟩
    ·simp only [Nat.pow_zero, Nat.mul_one, Nat.sub_zero, hz0, Nat.add_zero]; exact hO
    ·simp only [Nat.pow_zero, Nat.mul_one, Nat.sub_zero, hz0, Nat.add_zero]; exact h3
   ·rintro ⟨j, a3⟩ σ H2 ⟨j1, hE, hO, h0, h3, h4, h5⟩
    simp only [] at j1 hO h3 h5
    by_cases hj : j = 4
    ·subst hj
     rw [show (24 : Int) - 8 * ((4 : Nat) : Int) = -8 from rfl] at h5
     have e7 : IntKind.i64.wrap ((i : Int) - 1) = (i : Int) - 1 := w64 (by omega) (by omega)
     have e8 : L.wval (ws.drop (i + 1)) * 256 ^ 4 + ws[i] / 256 ^ (4 - 4) = L.wval (ws.drop i) := by
      rw [L.wval_drop ws i hi2, show 256 ^ 4 = L.B32 from rfl, Nat.mul_comm L.B32]; simp; omega
     rw [e8] at hO h3
     simp -dsimp only [go_sem, h0, h3, h4, h5, e7]
     exact next (i, a3) (by show i < i + 1; omega) ⟨by simp only []; omega, hE, hO, h0, h3, rfl⟩
    ·have hj4 : j < 4 := by omega
     have hB2 := hE.live hB
     have hlen := pack_len ws hw i hi2 j (by omega)
     have hlen2 := pack_len ws hw i hi2 (j + 1) (by omega)
     have hwb := L.word_byte (L.wval (ws.drop (i + 1))) ws[i] j hj4
     have hpush := L.bytes_push (L.wval (ws.drop (i + 1)) * 256 ^ j + ws[i] / 256 ^ (4 - j)) (ws[i] / 256 ^ (3 - j) % 256) (Nat.mod_lt _ (by decide))
     rw [hwb] at hpush
     have e5 : (24 : Int) - 8 * (j : Int) = ((8 * (3 - j) : Nat) : Int) := by omega
     have e6 : IntKind.i64.wrap (24 - 8 * (j : Int) - 8) = 24 - 8 * ((j + 1 : Nat) : Int) := by rw [w64 (by omega) (by omega)]; omega
     rw [e5] at e6
     have hge : (0 ≤ ((8 * (3 - j) : Nat) : Int)) = True := eq_true (Int.natCast_nonneg _)
     have hsh := shr_byte ws[i] (3 - j) (by omega)
     have hx : (UInt8.ofNat (ws[i] / 256 ^ (3 - j))).toNat = ws[i] / 256 ^ (3 - j) % 256 := by rw [UInt8.toNat_ofNat']
     have hx2 : UInt8.ofNat (ws[i] / 256 ^ (3 - j) % 256) = UInt8.ofNat (ws[i] / 256 ^ (3 - j)) := by
      apply UInt8.toNat_inj.1; rw [UInt8.toNat_ofNat', UInt8.toNat_ofNat', Nat.mod_mod]
     rw [hx2, ← hx] at hpush
     rw [e5] at h5
     generalize UInt8.ofNat (ws[i] / 256 ^ (3 - j)) = x at *
     generalize L.wval (ws.drop (i + 1)) * 256 ^ j + ws[i] / 256 ^ (4 - j) = v at *
     have hap := fun t t2 => ap_own (P := prog) (lk := H.length) (t := t) (t2 := t2) hO (Nat.le_refl _) rfl [.int .u8 ((x.toNat : Nat) : Int)] 1 rfl rfl
     have hO2 := q9p (lo := H.length) (H := H2) (a := a3) (l := q0b v) x [⟨[.int .u8 ((x.toNat : Nat) : Int)], 1, false⟩] (by have := hE.le; simp; omega)
     have hE2 : Ext H (kill (H2 ++ [⟨[.int .u8 ((x.toNat : Nat) : Int)], 1, false⟩]) a3) := (hO.more _).kill (hE.more _)
     by_cases hc : 0 < (q0b v).length ∨ 0 < x.toNat
     ·rw [if_pos hc] at hpush
      rw [hpush] at hlen2
      rw [List.length_append, List.length_singleton] at hlen2
      have hfin : (q0b v).length + 1 = (q0b (L.wval (ws.drop (i + 1)) * 256 ^ (j + 1) + ws[i] / 256 ^ (4 - (j + 1)))).length := by rw [hpush]; simp
      rw [← hpush] at hO2
      by_cases hA : 0 < (q0b v).length
      ·have hA' : (0 < (((q0b v).length : Nat) : Int)) = True := eq_true (by omega)
       simp -dsimp only [go_sem, h0, h3, h4, h5, e6, hge, hB2, hz, hg, hsh, hi2, hA', reps, hap]
       refine ⟨by omega, next (j + 1, some ⟨H2.length + 1, 0, none⟩) (by show 4 - (j + 1) < 4 - j; omega) ⟨by simp only []; omega, hE2.more _, hO2, h0, ?_, h4, rfl⟩⟩
       simp only [upd, hfin]; rfl
      ·have hA' : (0 < (((q0b v).length : Nat) : Int)) = False := eq_false (by omega)
       have hx0 : (0 < ((x.toNat : Nat) : Int)) = True := eq_true (by omega)
       simp -dsimp only [go_sem, h0, h3, h4, h5, e6, hge, hB2, hz, hg, hsh, hi2, hA', hx0, reps, hap]
       refine ⟨by omega, next (j + 1, some ⟨H2.length + 1, 0, none⟩) (by show 4 - (j + 1) < 4 - j; omega) ⟨by simp only []; omega, hE2.more _, hO2, h0, ?_, h4, rfl⟩⟩
       simp only [upd, hfin]; rfl
     ·rw [if_neg hc] at hpush
      have hA' : (0 < (((q0b v).length : Nat) : Int)) = False := eq_false (by omega)
      have hx0 : (0 < ((x.toNat : Nat) : Int)) = False := eq_false (by omega)
      simp -dsimp only [go_sem, h0, h3, h4, h5, e6, hge, hB2, hz, hg, hsh, hi2, hA', hx0]
      refine next (j + 1, a3) (by show 4 - (j + 1) < 4 - j; omega) ⟨by simp only []; omega, hE, ?_, h0, ?_, h4, rfl⟩
      ·simp only [hpush]; exact hO
      ·simp only [hpush]; exact h3
theorem r1_Of (lk : Nat) (H : Heap) (u : Nat) (hu : u < B64) : q0c prog md lk 130 [.int .u64 (u : Int)] H = some (.string (mkS (q0b u)), H) := by
 refine q0a rfl Tryz.func130 rfl rfl ?_
 have hm := q7k u hu
 have hs : Int.fdiv (u : Int) (2 ^ 32) = ((u / 4294967296 : Nat) : Int) := shr32 u
 have hlb : lblk [u % 4294967296, u / 4294967296] = ⟨[.int .u64 ((u % 4294967296 : Nat) : Int), .int .u64 ((u / 4294967296 : Nat) : Int)], 1, false⟩ := rfl
 have hp := fun lk => w0i lk (H ++ [lblk [u % 4294967296, u / 4294967296]]) (some ⟨H.length, 0, none⟩) [u % 4294967296, u / 4294967296] 2 rfl (by omega) (by
  intro w hw; simp only [List.mem_cons, List.not_mem_nil, or_false] at hw; simp only [L.B32]; simp only [B64] at hu; rcases hw with rfl | rfl <;> omega) (SL.blk (q0j _ _))
 have hv : L.wval [u % 4294967296, u / 4294967296] = u := by simp only [L.wval, L.B32]; omega
 rw [hv, hlb] at hp
 simp only [B64] at hu
 simp -dsimp only [go_sem, hm, shr32, reps, hp]
theorem r1_Compare (lk : Nat) (H : Heap) (a b : Nat) : q0c prog md lk 193 [.string (mkS (q0b a)), .string (mkS (q0b b))] H = some (.int .i64 (if a < b then -1 else if a = b then 0 else 1), H) := by
 refine q0a rfl Tryz.func193 rfl rfl ?_
 simp -dsimp only [go_sem]
 refine q0y (fun h1 => ?_) (fun h1 => ?_)
 ·simp -dsimp only [go_sem, h1]
  rw [if_pos (q6e h1)]
 ·simp -dsimp only [go_sem, h1]
  refine q0y (fun h2 => ?_) (fun h2 => ?_)
  ·simp -dsimp only [go_sem, h1, eq_true h2, q9v _ _ h2, q1d]
   refine q0y (fun h3 => ?_) (fun h3 => ?_)
   ·simp -dsimp only [go_sem]
    rw [if_pos h3]
   ·simp -dsimp only [go_sem, q1f]
    refine q0y (fun h4 => ?_) (fun h4 => ?_)
    ·simp -dsimp only [go_sem]
     rw [if_neg h3, if_pos h4]
    ·simp -dsimp only [go_sem]
     rw [if_neg h3, if_neg h4]
  ·simp -dsimp only [go_sem, h1, h2, q1f]
   have h3 := q6e (a := b) (b := a) (by omega)
   have h4 : (a = b) = False := by simp; omega
   simp -dsimp only [go_sem, h4]
   rw [if_neg (by omega)]
namespace L
theorem add_step (x y i : Nat) : (x + y) / B32 ^ i % B32 = (lowSum x y i / B32 ^ i + x / B32 ^ i % B32 + y / B32 ^ i % B32) % B32 ∧ lowSum x y (i + 1) / B32 ^ (i + 1) = (lowSum x y i / B32 ^ i + x / B32 ^ i % B32 + y / B32 ^ i % B32) / B32 := by
 have hp : 0 < B32 ^ i := Nat.pow_pos (by decide)
 have h1 := lowSum_succ x y i
 have h2 := low_mod (t := x / B32 ^ i % B32 + y / B32 ^ i % B32 + lowSum x y i / B32 ^ i) (Nat.mod_lt (lowSum x y i) hp)
 rw [← h1, ← Nat.pow_succ] at h2
 have e : lowSum x y i / B32 ^ i + x / B32 ^ i % B32 + y / B32 ^ i % B32 = x / B32 ^ i % B32 + y / B32 ^ i % B32 + lowSum x y i / B32 ^ i := by omega
 rw [e]
 refine ⟨?_, h2.2⟩
 have h3 : (x + y) % B32 ^ (i + 1) = lowSum x y (i + 1) % B32 ^ (i + 1) := by unfold lowSum; rw [← Nat.add_mod]
 rw [← Nat.mod_mul_right_div_self, ← Nat.pow_succ, h3, h2.1, Nat.add_mul_div_right _ _ hp, Nat.div_eq_of_lt (Nat.mod_lt _ hp), Nat.zero_add]
theorem add_end (x y i : Nat) (h1 : (digs x).length ≤ i) (h2 : (digs y).length ≤ i) : lowSum x y i = x + y ∧ x + y < 2 * B32 ^ i := by
 have hx := Nat.lt_of_lt_of_le (lt_pow_digs x) (Nat.pow_le_pow_right (show 0 < B32 by decide) h1)
 have hy := Nat.lt_of_lt_of_le (lt_pow_digs y) (Nat.pow_le_pow_right (show 0 < B32 by decide) h2)
 unfold lowSum
 rw [Nat.mod_eq_of_lt hx, Nat.mod_eq_of_lt hy]
 omega
end L
theorem r1_Add (lk : Nat) (H : Heap) (x y : Nat) (hx : (q0b x).length < 100000000) (hy : (q0b y).length < 100000000) : q0c prog md lk 192 [.string (mkS (q0b x)), .string (mkS (q0b y))] H = some (.string (mkS (q0b (x + y))), H) := by
 refine q0a rfl Tryz.func192 rfl rfl ?_
 have hA := fun lk => q5z lk H x (by omega)
 have hB := fun lk => q5z lk (H ++ mkN (L.digs x)) y (by omega)
 have hS1 : SL (H ++ (mkN (L.digs x) ++ mkN (L.digs y))) (mkA H (L.digs x)) (L.digs x) := by rw [← List.append_assoc]; exact (Ext.app _ _).sl (mk_sl H (L.digs x))
 have hS2 : SL (H ++ (mkN (L.digs x) ++ mkN (L.digs y))) (mkA (H ++ mkN (L.digs x)) (L.digs y)) (L.digs y) := by rw [← List.append_assoc]; exact mk_sl _ _
 have hE0 : Ext H (H ++ (mkN (L.digs x) ++ mkN (L.digs y))) := Ext.app _ _
 simp -dsimp only [go_sem, hA, hB]
 clear hA hB
 have lx := L.digs_len_bytes x
 have ly := L.digs_len_bytes y
 generalize H ++ (mkN (L.digs x) ++ mkN (L.digs y)) = H1 at *
 generalize mkA H (L.digs x) = a1 at *
 generalize mkA (H ++ mkN (L.digs x)) (L.digs y) = a2 at *
 have hgx := L.digs_get x
 have hgy := L.digs_get y
 have hhx := fun i => L.high_zero x i 0
 have hhy := fun i => L.high_zero y i 0
 have hend := L.add_end x y
 generalize L.digs x = dx at *
 generalize L.digs y = dy at *
 refine q0h (m := fun (s : Nat × Option Addr) => max dx.length dy.length + 1 - s.1) (I := fun s σ H' => s.1 ≤ max dx.length dy.length + 1 ∧ Ext H1 H' ∧ Own H1.length H' s.2 (L.digsN s.1 (x + y)) ∧ σ 5 = .slice a1 dx.length dx.length ∧ σ 6 = .slice a2 dy.length dy.length ∧ σ 7 = .slice s.2 s.1 s.1 ∧ σ 8 = .int .u64 ((L.lowSum x y s.1 / L.B32 ^ s.1 : Nat) : Int) ∧ σ 9 = .int .i64 (s.1 : Int)) (0, none) ?_ ?_
 ·exact ⟨Nat.zero_le _, Ext.refl _, Own.nil, rfl, rfl, rfl, by simp [L.lowSum, Nat.mod_one, upd], rfl⟩
 ·rintro ⟨i, a⟩ σ H' ⟨h1, hE, hO, h5, h6, h7, h8, h9⟩
  simp only [] at h1 hO h7 h8 h9
  have hc := L.lowSum_carry x y i
  obtain ⟨s1, s2⟩ := L.add_step x y i
  have e7 : IntKind.i64.wrap ((i : Int) + 1) = ((i + 1 : Nat) : Int) := by rw [w64 (by omega) (by omega)]; omega
  have hxi : x / L.B32 ^ i % L.B32 < 4294967296 := Nat.mod_lt _ (by decide)
  have hyi : y / L.B32 ^ i % L.B32 < 4294967296 := Nat.mod_lt _ (by decide)
  have hlo : H.length ≤ H1.length := hE0.le
  have hap := fun t t2 => ap_own (P := prog) (lk := H.length) (t := t) (t2 := t2) hO hlo (L.digsN_len i (x + y)).symm [.int .u64 (((x + y) / L.B32 ^ i % L.B32 : Nat) : Int)] 1 rfl rfl
  have hO2 := q9p (lo := H1.length) (H := H') (a := a) (l := L.digsN i (x + y)) ((x + y) / L.B32 ^ i % L.B32) [⟨[.int .u64 (((x + y) / L.B32 ^ i % L.B32 : Nat) : Int)], 1, false⟩] (by have := hE.le; simp; omega)
  have hE2 : Ext H1 (kill (H' ++ [⟨[.int .u64 (((x + y) / L.B32 ^ i % L.B32 : Nat) : Int)], 1, false⟩]) a) := (hO.more _).kill (hE.more _)
  rw [L.digsN_snoc] at hO2
  have hg := hhx i
  have hg2 := hhy i
  have hend1 := hend (i - 1)
  have hend := hend i
  by_cases hx : i < dx.length
  ·by_cases hy : i < dy.length
   ·have f1 : ((i : Int) < ((dx.length : Nat) : Int)) = True := eq_true (by omega)
    have f2 : ((i : Int) < ((dy.length : Nat) : Int)) = True := eq_true (by omega)
    obtain ⟨b1, o1, B1, rfl, hB1, hz1, hg1⟩ := (hE.sl hS1).word i hx
    rw [hgx i hx] at hg1
    have c1 : IntKind.u64.wrap (((L.lowSum x y i / L.B32 ^ i : Nat) : Int) + ((x / L.B32 ^ i % L.B32 : Nat) : Int)) = ((L.lowSum x y i / L.B32 ^ i + x / L.B32 ^ i % L.B32 : Nat) : Int) := by rw [q2x, Nat.mod_eq_of_lt (by omega)]
    obtain ⟨b2, o2, B2, rfl, hB2, hz2, hg2'⟩ := (hE.sl hS2).word i hy
    rw [hgy i hy] at hg2'
    have c2 : IntKind.u64.wrap (((L.lowSum x y i / L.B32 ^ i + x / L.B32 ^ i % L.B32 : Nat) : Int) + ((y / L.B32 ^ i % L.B32 : Nat) : Int)) = ((L.lowSum x y i / L.B32 ^ i + x / L.B32 ^ i % L.B32 + y / L.B32 ^ i % L.B32 : Nat) : Int) := by rw [q2x, Nat.mod_eq_of_lt (by omega)]
    have c3 := q7k (L.lowSum x y i / L.B32 ^ i + x / L.B32 ^ i % L.B32 + y / L.B32 ^ i % L.B32) (by omega)
    have c4 := shr32 (L.lowSum x y i / L.B32 ^ i + x / L.B32 ^ i % L.B32 + y / L.B32 ^ i % L.B32)
    change (x + y) / L.B32 ^ i % L.B32 = (L.lowSum x y i / L.B32 ^ i + x / L.B32 ^ i % L.B32 + y / L.B32 ^ i % L.B32) % 4294967296 at s1
    change L.lowSum x y (i + 1) / L.B32 ^ (i + 1) = (L.lowSum x y i / L.B32 ^ i + x / L.B32 ^ i % L.B32 + y / L.B32 ^ i % L.B32) / 4294967296 at s2
    rw [← s1] at c3
    rw [← s2] at c4
    simp -dsimp only [go_sem, h5, h6, h7, h8, h9, e7, reps, hap, f1, f2, hB1, hz1, hg1, c1, hx, hB2, hz2, hg2', c2, hy, c3, c4]
    refine ⟨by omega, next (i + 1, some ⟨H'.length + 1, 0, none⟩) (by show max dx.length dy.length + 1 - (i + 1) < max dx.length dy.length + 1 - i; omega) ⟨by simp only []; omega, hE2.more _, hO2, h5, h6, rfl, rfl, rfl⟩⟩
   ·have f1 : ((i : Int) < ((dx.length : Nat) : Int)) = True := eq_true (by omega)
    have f2 : ((i : Int) < ((dy.length : Nat) : Int)) = False := eq_false (by omega)
    obtain ⟨b1, o1, B1, rfl, hB1, hz1, hg1⟩ := (hE.sl hS1).word i hx
    rw [hgx i hx] at hg1
    have c1 : IntKind.u64.wrap (((L.lowSum x y i / L.B32 ^ i : Nat) : Int) + ((x / L.B32 ^ i % L.B32 : Nat) : Int)) = ((L.lowSum x y i / L.B32 ^ i + x / L.B32 ^ i % L.B32 : Nat) : Int) := by rw [q2x, Nat.mod_eq_of_lt (by omega)]
    rw [hg2 (by omega), Nat.add_zero] at s1 s2
    have c3 := q7k (L.lowSum x y i / L.B32 ^ i + x / L.B32 ^ i % L.B32) (by omega)
    have c4 := shr32 (L.lowSum x y i / L.B32 ^ i + x / L.B32 ^ i % L.B32)
    change (x + y) / L.B32 ^ i % L.B32 = (L.lowSum x y i / L.B32 ^ i + x / L.B32 ^ i % L.B32) % 4294967296 at s1
    change L.lowSum x y (i + 1) / L.B32 ^ (i + 1) = (L.lowSum x y i / L.B32 ^ i + x / L.B32 ^ i % L.B32) / 4294967296 at s2
    rw [← s1] at c3
    rw [← s2] at c4
    simp -dsimp only [go_sem, h5, h6, h7, h8, h9, e7, reps, hap, f1, f2, hB1, hz1, hg1, c1, hx, c3, c4]
    refine ⟨by omega, next (i + 1, some ⟨H'.length + 1, 0, none⟩) (by show max dx.length dy.length + 1 - (i + 1) < max dx.length dy.length + 1 - i; omega) ⟨by simp only []; omega, hE2.more _, hO2, h5, h6, rfl, rfl, rfl⟩⟩
  ·by_cases hy : i < dy.length
   ·have f1 : ((i : Int) < ((dx.length : Nat) : Int)) = False := eq_false (by omega)
    have f2 : ((i : Int) < ((dy.length : Nat) : Int)) = True := eq_true (by omega)
    rw [hg (by omega), Nat.add_zero] at s1 s2
    obtain ⟨b2, o2, B2, rfl, hB2, hz2, hg2'⟩ := (hE.sl hS2).word i hy
    rw [hgy i hy] at hg2'
    have c2 : IntKind.u64.wrap (((L.lowSum x y i / L.B32 ^ i : Nat) : Int) + ((y / L.B32 ^ i % L.B32 : Nat) : Int)) = ((L.lowSum x y i / L.B32 ^ i + y / L.B32 ^ i % L.B32 : Nat) : Int) := by rw [q2x, Nat.mod_eq_of_lt (by omega)]
    have c3 := q7k (L.lowSum x y i / L.B32 ^ i + y / L.B32 ^ i % L.B32) (by omega)
    have c4 := shr32 (L.lowSum x y i / L.B32 ^ i + y / L.B32 ^ i % L.B32)
    change (x + y) / L.B32 ^ i % L.B32 = (L.lowSum x y i / L.B32 ^ i + y / L.B32 ^ i % L.B32) % 4294967296 at s1
    change L.lowSum x y (i + 1) / L.B32 ^ (i + 1) = (L.lowSum x y i / L.B32 ^ i + y / L.B32 ^ i % L.B32) / 4294967296 at s2
    rw [← s1] at c3
    rw [← s2] at c4
    simp -dsimp only [go_sem, h5, h6, h7, h8, h9, e7, reps, hap, f1, f2, hB2, hz2, hg2', c2, hy, c3, c4]
    refine ⟨by omega, next (i + 1, some ⟨H'.length + 1, 0, none⟩) (by show max dx.length dy.length + 1 - (i + 1) < max dx.length dy.length + 1 - i; omega) ⟨by simp only []; omega, hE2.more _, hO2, h5, h6, rfl, rfl, rfl⟩⟩
   ·by_cases hcc : 0 < L.lowSum x y i / L.B32 ^ i
    ·have f1 : ((i : Int) < ((dx.length : Nat) : Int)) = False := eq_false (by omega)
     have f2 : ((i : Int) < ((dy.length : Nat) : Int)) = False := eq_false (by omega)
     have f3 : (0 < ((L.lowSum x y i / L.B32 ^ i : Nat) : Int)) = True := eq_true (by omega)
     rw [hg (by omega), Nat.add_zero] at s1 s2
     rw [hg2 (by omega), Nat.add_zero] at s1 s2
     have c3 := q7k (L.lowSum x y i / L.B32 ^ i) (by omega)
     have c4 := shr32 (L.lowSum x y i / L.B32 ^ i)
     change (x + y) / L.B32 ^ i % L.B32 = (L.lowSum x y i / L.B32 ^ i) % 4294967296 at s1
     change L.lowSum x y (i + 1) / L.B32 ^ (i + 1) = (L.lowSum x y i / L.B32 ^ i) / 4294967296 at s2
     rw [← s1] at c3
     rw [← s2] at c4
     simp -dsimp only [go_sem, h5, h6, h7, h8, h9, e7, reps, hap, f1, f2, f3, c3, c4]
     have hmx : i ≤ max dx.length dy.length := by
         apply Nat.le_of_not_lt
         intro hgt
         obtain ⟨z1, z2⟩ := hend (by omega) (by omega)
         obtain ⟨_, z3⟩ := hend1 (by omega) (by omega)
         have ep : L.B32 ^ i = L.B32 ^ (i - 1) * L.B32 := by rw [← Nat.pow_succ]; congr 1; omega
         have hlt : x + y < L.B32 ^ i := by rw [ep]; simp only [L.B32]; simp only [L.B32] at z3; omega
         rw [z1, Nat.div_eq_of_lt hlt] at hcc; omega
     refine ⟨by omega, next (i + 1, some ⟨H'.length + 1, 0, none⟩) (by show max dx.length dy.length + 1 - (i + 1) < max dx.length dy.length + 1 - i; omega) ⟨by simp only []; omega, hE2.more _, hO2, h5, h6, rfl, rfl, rfl⟩⟩
    ·have f1 : ((i : Int) < ((dx.length : Nat) : Int)) = False := eq_false (by omega)
     have f2 : ((i : Int) < ((dy.length : Nat) : Int)) = False := eq_false (by omega)
     have f3 : (0 < ((L.lowSum x y i / L.B32 ^ i : Nat) : Int)) = False := eq_false (by omega)
     obtain ⟨z1, z2⟩ := hend (by omega) (by omega)
     have hlt : x + y < L.B32 ^ i := by
         rw [z1] at hcc
         have hz : (x + y) / L.B32 ^ i = 0 := Nat.eq_zero_of_not_pos hcc
         exact (Nat.div_eq_zero_iff_lt (Nat.pow_pos (by decide))).1 hz
     have hp := fun lk => w0i lk H' a (L.digsN i (x + y)) i (L.digsN_len i _).symm (by omega) (L.digsN_lt i _) hO.sl
     rw [L.digsN_wval i _ hlt] at hp
     simp -dsimp only [go_sem, h5, h6, h7, h8, h9, e7, reps, hap, f1, f2, f3, hp]
theorem mkA_ne {α : Type} (H : Heap) {l : List α} (h : l ≠ []) : mkA H l = some ⟨H.length, 0, none⟩ := by
 cases l with
 | nil => exact absurd rfl h
 | cons x l => rfl
theorem mkN_ne {α : Type} [Enc α] {l : List α} (h : l ≠ []) : mkN l = [lblk l] := by
 cases l with
 | nil => exact absurd rfl h
 | cons x l => rfl
theorem mkA_congr {α : Type} {H H' : Heap} (l : List α) (h : H.length = H'.length) : mkA H l = mkA H' l := by unfold mkA; rw [h]
theorem ldigs_ne {n : Nat} (h : n ≠ 0) : L.digs n ≠ [] := fun h2 => h (L.digs_nil.1 (by rw [h2]; rfl))
theorem r1_Sub (lk : Nat) (H : Heap) (x y : Nat) (hx : (q0b x).length < 100000000) (hy : (q0b y).length < 100000000) : q0c prog md lk 194 [.string (mkS (q0b x)), .string (mkS (q0b y))] H = some (.string (mkS (q0b (x - y))), H) := by
 refine q0a rfl Tryz.func194 rfl rfl ?_
 have hC := fun lk => r1_Compare lk H x y
 by_cases hxy : x < y
 ·rw [if_pos hxy] at hC
  rw [show x - y = 0 by omega, q1c]
  simp -dsimp only [go_sem, hC]
 have hCn : (if x < y then (-1 : Int) else if x = y then 0 else 1) < 0 ↔ False := by
  rw [if_neg hxy]; split <;> simp
 have hA := fun lk => q5z lk H x (by omega)
 have hB := fun lk => q5z lk (H ++ mkN (L.digs x)) y (by omega)
 by_cases hx0 : x = 0
 ·subst hx0
  have : y = 0 := by omega
  subst this
  have hp := fun lk => w0i lk H none [] 0 rfl (by omega) (by simp) SL.nil
  have e1 : ∀ H : Heap, mkA H ([] : List Nat) = none := fun _ => rfl
  have e2 : mkN ([] : List Nat) = [] := rfl
  simp only [L.digs_zero, e1, e2, List.append_nil, List.length_nil] at hA hB
  simp only [q1c, Nat.lt_irrefl, if_false, if_true] at hC hA hB
  simp -dsimp only [go_sem, hC, hA, hB]
  refine q0h (m := id) (I := fun (i : Nat) σ H2 => H2 = H ∧ σ 5 = .slice none 0 0 ∧ σ 8 = .int .i64 0) 0 ⟨rfl, rfl, rfl⟩ ?_
  rintro i σ H2 ⟨rfl, h5, h8⟩
  simp -dsimp only [go_sem, h5, h8, hp, L.wval]
 have hdx := ldigs_ne hx0
 have hxl := L.lt_pow_digs x
 have lx := L.digs_len_bytes x
 have ly := L.digs_len_bytes y
 have hdd := L.digsN_digs x
 rw [mkN_ne hdx, mkA_ne H hdx] at hA
 rw [mkN_ne hdx] at hB
 have hS2 : ∀ B : Blk, SL (H ++ B :: mkN (L.digs y)) (mkA (H ++ [lblk (L.digs x)]) (L.digs y)) (L.digs y) := by
  intro B
  have := mk_sl (H ++ [B]) (L.digs y)
  rw [List.append_assoc, mkA_congr (H' := H ++ [lblk (L.digs x)]) _ (by simp)] at this
  exact this
 simp -dsimp only [go_sem, hC, hCn, hA, hB]
 clear hA hB
 generalize mkA (H ++ [lblk (L.digs x)]) (L.digs y) = a2 at *
 have hgx := L.digs_get x
 have hgy := L.digs_get y
 have hhy := fun i => L.high_zero y i 0
 generalize L.digs x = dx at *
 generalize L.digs y = dy at *
 refine q0h (m := fun i => dx.length - i) (I := fun i σ H2 => i ≤ dx.length ∧ H2 = H ++ wblk (L.subFill x y dx.length i) :: mkN dy ∧ σ 5 = .slice (some ⟨H.length, 0, none⟩) dx.length dx.length ∧ σ 6 = .slice a2 dy.length dy.length ∧ σ 7 = .int .u64 ((L.borrow x y i : Nat) : Int) ∧ σ 8 = .int .i64 (i : Int)) 0 ?_ ?_
 ·refine ⟨Nat.zero_le _, ?_, rfl, rfl, ?_, rfl⟩
  ·rw [L.subFill_zero, hdd, lblk_w]
  ·simp [L.borrow, Nat.mod_one, upd]
 ·rintro i σ H2 ⟨h1, rfl, h5, h6, h7, h8⟩
  have hS2 := hS2 (wblk (L.subFill x y dx.length i))
  by_cases hi : i < dx.length
  ·have f1 : ((i : Int) < ((dx.length : Nat) : Int)) = True := eq_true (by omega)
   have hc := L.borrow_le x y i
   have hl : i < (L.subFill x y dx.length i).length := by unfold L.subFill; rw [L.digsN_len]; exact hi
   have hlen : (L.subFill x y dx.length i).length = dx.length := by unfold L.subFill; rw [L.digsN_len]
   obtain ⟨s1, s2⟩ := L.subFill_succ x y dx.length i hi
   have hg : (L.subFill x y dx.length i)[i] = x / L.B32 ^ i % L.B32 := L.subFill_get x y dx.length i hi hl
   have e7 : IntKind.i64.wrap ((i : Int) + 1) = ((i + 1 : Nat) : Int) := by rw [w64 (by omega) (by omega)]; omega
   have hxi : x / L.B32 ^ i % L.B32 < 4294967296 := Nat.mod_lt _ (by decide)
   have hyi : y / L.B32 ^ i % L.B32 < 4294967296 := Nat.mod_lt _ (by decide)
   have hhy := hhy i
   have hgl := q0k _ _ hl
   have hpl := fun w => q0p _ _ w hl
   generalize L.subFill x y dx.length i = sf at *
   by_cases hyl : i < dy.length
   ·by_cases hbo : x / L.B32 ^ i % L.B32 < L.borrow x y i + y / L.B32 ^ i % L.B32
    ·have f2 : ((i : Int) < ((dy.length : Nat) : Int)) = True := eq_true (by omega)
     obtain ⟨b2, o2, B2, rfl, hB2, hz2, hg2⟩ := hS2.word i hyl
     rw [hgy i hyl] at hg2
     simp only [wblk] at hB2
     have c2 : IntKind.u64.wrap (((L.borrow x y i : Nat) : Int) + ((y / L.B32 ^ i % L.B32 : Nat) : Int)) = ((L.borrow x y i + y / L.B32 ^ i % L.B32 : Nat) : Int) := by rw [q2x, Nat.mod_eq_of_lt (by omega)]
     have f3 : (((x / L.B32 ^ i % L.B32 : Nat) : Int) < ((L.borrow x y i + y / L.B32 ^ i % L.B32 : Nat) : Int)) = True := eq_true (by omega)
     have c3 : IntKind.u64.wrap (((x / L.B32 ^ i % L.B32 : Nat) : Int) + 4294967296) = ((x / L.B32 ^ i % L.B32 + 4294967296 : Nat) : Int) := by rw [IntKind.wrap_u64]; omega
     have hl3 : i < (sf.set i (x / L.B32 ^ i % L.B32 + 4294967296)).length := by rw [List.length_set]; exact hl
     have hgl3 := q0k _ _ hl3
     have hpl3 := fun w => q0p _ _ w hl3
     have hg3 : (sf.set i (x / L.B32 ^ i % L.B32 + 4294967296))[i] = x / L.B32 ^ i % L.B32 + 4294967296 := List.getElem_set_self _
     have c4 : IntKind.u64.wrap (((x / L.B32 ^ i % L.B32 + 4294967296 : Nat) : Int) - ((L.borrow x y i + y / L.B32 ^ i % L.B32 : Nat) : Int)) = ((x / L.B32 ^ i % L.B32 + 4294967296 - (L.borrow x y i + y / L.B32 ^ i % L.B32) : Nat) : Int) := by rw [IntKind.wrap_u64]; omega
     have s3 : L.subFill x y dx.length (i + 1) = sf.set i (x / L.B32 ^ i % L.B32 + 4294967296 - (L.borrow x y i + y / L.B32 ^ i % L.B32)) := by rw [s1]; congr 1; simp only [L.B32] at *; omega
     have s4 : L.borrow x y (i + 1) = 1 := by rw [s2, if_pos (by omega)]
     simp -dsimp only [go_sem, h5, h6, h7, h8, e7, f1, f2, hi, hl, hlen, wblk, hgl, hg, hpl, hB2, hz2, hg2, c2, hyl, f3, c3, hl3, hgl3, hg3, hpl3, c4, List.set_set, List.length_set]
     exact next (i + 1) (by show dx.length - (i + 1) < dx.length - i; omega) ⟨hi, by rw [s3], h5, h6, by rw [s4]; rfl, rfl⟩
    ·have f2 : ((i : Int) < ((dy.length : Nat) : Int)) = True := eq_true (by omega)
     obtain ⟨b2, o2, B2, rfl, hB2, hz2, hg2⟩ := hS2.word i hyl
     rw [hgy i hyl] at hg2
     simp only [wblk] at hB2
     have c2 : IntKind.u64.wrap (((L.borrow x y i : Nat) : Int) + ((y / L.B32 ^ i % L.B32 : Nat) : Int)) = ((L.borrow x y i + y / L.B32 ^ i % L.B32 : Nat) : Int) := by rw [q2x, Nat.mod_eq_of_lt (by omega)]
     have f3 : (((x / L.B32 ^ i % L.B32 : Nat) : Int) < ((L.borrow x y i + y / L.B32 ^ i % L.B32 : Nat) : Int)) = False := eq_false (by omega)
     have c4 : IntKind.u64.wrap (((x / L.B32 ^ i % L.B32 : Nat) : Int) - ((L.borrow x y i + y / L.B32 ^ i % L.B32 : Nat) : Int)) = ((x / L.B32 ^ i % L.B32 - (L.borrow x y i + y / L.B32 ^ i % L.B32) : Nat) : Int) := by rw [IntKind.wrap_u64]; omega
     have s3 : L.subFill x y dx.length (i + 1) = sf.set i (x / L.B32 ^ i % L.B32 - (L.borrow x y i + y / L.B32 ^ i % L.B32)) := by rw [s1]; congr 1; simp only [L.B32] at *; omega
     have s4 : L.borrow x y (i + 1) = 0 := by rw [s2, if_neg (by omega)]
     simp -dsimp only [go_sem, h5, h6, h7, h8, e7, f1, f2, hi, hl, hlen, wblk, hgl, hg, hpl, hB2, hz2, hg2, c2, hyl, f3, c4]
     exact next (i + 1) (by show dx.length - (i + 1) < dx.length - i; omega) ⟨hi, by rw [s3], h5, h6, by rw [s4]; rfl, rfl⟩
   ·by_cases hbo : x / L.B32 ^ i % L.B32 < L.borrow x y i
    ·have f2 : ((i : Int) < ((dy.length : Nat) : Int)) = False := eq_false (by omega)
     rw [hhy (by omega), Nat.sub_zero] at s1
     rw [hhy (by omega), Nat.zero_add] at s2
     have f3 : (((x / L.B32 ^ i % L.B32 : Nat) : Int) < ((L.borrow x y i : Nat) : Int)) = True := eq_true (by omega)
     have c3 : IntKind.u64.wrap (((x / L.B32 ^ i % L.B32 : Nat) : Int) + 4294967296) = ((x / L.B32 ^ i % L.B32 + 4294967296 : Nat) : Int) := by rw [IntKind.wrap_u64]; omega
     have hl3 : i < (sf.set i (x / L.B32 ^ i % L.B32 + 4294967296)).length := by rw [List.length_set]; exact hl
     have hgl3 := q0k _ _ hl3
     have hpl3 := fun w => q0p _ _ w hl3
     have hg3 : (sf.set i (x / L.B32 ^ i % L.B32 + 4294967296))[i] = x / L.B32 ^ i % L.B32 + 4294967296 := List.getElem_set_self _
     have c4 : IntKind.u64.wrap (((x / L.B32 ^ i % L.B32 + 4294967296 : Nat) : Int) - ((L.borrow x y i : Nat) : Int)) = ((x / L.B32 ^ i % L.B32 + 4294967296 - (L.borrow x y i) : Nat) : Int) := by rw [IntKind.wrap_u64]; omega
     have s3 : L.subFill x y dx.length (i + 1) = sf.set i (x / L.B32 ^ i % L.B32 + 4294967296 - (L.borrow x y i)) := by rw [s1]; congr 1; simp only [L.B32] at *; omega
     have s4 : L.borrow x y (i + 1) = 1 := by rw [s2, if_pos (by omega)]
     simp -dsimp only [go_sem, h5, h6, h7, h8, e7, f1, f2, hi, hl, hlen, wblk, hgl, hg, hpl, f3, c3, hl3, hgl3, hg3, hpl3, c4, List.set_set, List.length_set]
     exact next (i + 1) (by show dx.length - (i + 1) < dx.length - i; omega) ⟨hi, by rw [s3], h5, h6, by rw [s4]; rfl, rfl⟩
    ·have f2 : ((i : Int) < ((dy.length : Nat) : Int)) = False := eq_false (by omega)
     rw [hhy (by omega), Nat.sub_zero] at s1
     rw [hhy (by omega), Nat.zero_add] at s2
     have f3 : (((x / L.B32 ^ i % L.B32 : Nat) : Int) < ((L.borrow x y i : Nat) : Int)) = False := eq_false (by omega)
     have c4 : IntKind.u64.wrap (((x / L.B32 ^ i % L.B32 : Nat) : Int) - ((L.borrow x y i : Nat) : Int)) = ((x / L.B32 ^ i % L.B32 - (L.borrow x y i) : Nat) : Int) := by rw [IntKind.wrap_u64]; omega
     have s3 : L.subFill x y dx.length (i + 1) = sf.set i (x / L.B32 ^ i % L.B32 - (L.borrow x y i)) := by rw [s1]; congr 1; simp only [L.B32] at *; omega
     have s4 : L.borrow x y (i + 1) = 0 := by rw [s2, if_neg (by omega)]
     simp -dsimp only [go_sem, h5, h6, h7, h8, e7, f1, f2, hi, hl, hlen, wblk, hgl, hg, hpl, f3, c4]
     exact next (i + 1) (by show dx.length - (i + 1) < dx.length - i; omega) ⟨hi, by rw [s3], h5, h6, by rw [s4]; rfl, rfl⟩
  ·have hi' : i = dx.length := by omega
   subst hi'
   have hp := fun lk => w0i lk (H ++ lblk (L.digsN dx.length (x - y)) :: mkN dy) (some ⟨H.length, 0, none⟩) (L.digsN dx.length (x - y)) dx.length (L.digsN_len _ _).symm (by omega) (L.digsN_lt _ _) (SL.blk (by simp -dsimp only [go_sem, lblk]))
   rw [L.digsN_wval _ _ (by omega), lblk_w] at hp
   have hsl := L.subFill_last x y dx.length hxl (by omega)
   rw [hsl]
   simp -dsimp only [go_sem, h5, h6, h7, h8, Int.lt_irrefl, hp]
theorem r1_Mul (lk : Nat) (H : Heap) (x y : Nat) (hx : (q0b x).length < 100000000) (hy : (q0b y).length < 100000000) : q0c prog md lk 195 [.string (mkS (q0b x)), .string (mkS (q0b y))] H = some (.string (mkS (q0b (x * y))), H) := by
 refine q0a rfl Tryz.func195 rfl rfl ?_
 have hA := fun lk => q5z lk H x (by omega)
 have hB := fun lk => q5z lk (H ++ mkN (L.digs x)) y (by omega)
 have hS1 : SL (H ++ (mkN (L.digs x) ++ mkN (L.digs y))) (mkA H (L.digs x)) (L.digs x) := by rw [← List.append_assoc]; exact (Ext.app _ _).sl (mk_sl H (L.digs x))
 have hS2 : SL (H ++ (mkN (L.digs x) ++ mkN (L.digs y))) (mkA (H ++ mkN (L.digs x)) (L.digs y)) (L.digs y) := by rw [← List.append_assoc]; exact mk_sl _ _
 have hlo : H.length ≤ (H ++ (mkN (L.digs x) ++ mkN (L.digs y))).length := (Ext.app _ _).le
 have lx := L.digs_len_bytes x
 have ly := L.digs_len_bytes y
 have e1 : IntKind.i64.wrap (((L.digs x).length : Int) + ((L.digs y).length : Int)) = (((L.digs x).length + (L.digs y).length : Nat) : Int) := by rw [w64 (by omega) (by omega)]; omega
 have hassoc : ∀ N : List Blk, H ++ (mkN (L.digs x) ++ (mkN (L.digs y) ++ N)) = H ++ (mkN (L.digs x) ++ mkN (L.digs y)) ++ N := by intro N; simp
 have hlen : H.length + ((mkN (L.digs x)).length + (mkN (L.digs y)).length) = (H ++ (mkN (L.digs x) ++ mkN (L.digs y))).length := by simp
 simp -dsimp only [go_sem, hA, hB, e1]
 refine ⟨by omega, ?_⟩
 clear hA hB
 rw [hassoc, hlen]
 generalize H ++ (mkN (L.digs x) ++ mkN (L.digs y)) = H1 at *
 generalize mkA H (L.digs x) = a1 at *
 generalize mkA (H ++ mkN (L.digs x)) (L.digs y) = a2 at *
 have hgx := L.digs_get x
 have hgy := L.digs_get y
 have hxl := L.lt_pow_digs x
 have hyl := L.lt_pow_digs y
 generalize L.digs x = dx at *
 generalize L.digs y = dy at *
 refine q0h (m := fun i => dx.length - i) (I := fun i σ H2 => i ≤ dx.length ∧ H2 = H1 ++ [wblk (L.digsN (dx.length + dy.length) (x % L.B32 ^ i * y))] ∧ σ 5 = .slice a1 dx.length dx.length ∧ σ 6 = .slice a2 dy.length dy.length ∧ σ 7 = .slice (some ⟨H1.length, 0, none⟩) (dx.length + dy.length) (dx.length + dy.length) ∧ σ 8 = .int .i64 (i : Int)) 0 ?_ ?_
 ·refine ⟨Nat.zero_le _, ?_, rfl, rfl, rfl, rfl⟩
  rw [Nat.pow_zero, Nat.mod_one, Nat.zero_mul, L.digsN_zero, q3j]; rfl
 ·rintro i σ H2 ⟨h1, rfl, h5, h6, h7, h8⟩
  by_cases hi : i < dx.length
  ·have f1 : ((i : Int) < ((dx.length : Nat) : Int)) = True := eq_true (by omega)
   obtain ⟨b1, o1, B1, rfl, hB1, hz1, hg1⟩ := hS1.word i hi
   rw [hgx i hi] at hg1
   have e7 : IntKind.i64.wrap ((i : Int) + 1) = ((i + 1 : Nat) : Int) := by rw [w64 (by omega) (by omega)]; omega
   simp -dsimp only [go_sem, h5, h8, f1]
   refine q0h (m := fun (s : Nat × Nat × Nat) => dy.length - s.1) (I := fun s σ H2 => s.1 ≤ dy.length ∧ L.Row x y i s.1 s.2.1 s.2.2 ∧ H2 = H1 ++ [wblk (L.digsN (dx.length + dy.length) s.2.1)] ∧ σ 5 = .slice (some ⟨b1, o1, none⟩) dx.length dx.length ∧ σ 6 = .slice a2 dy.length dy.length ∧ σ 7 = .slice (some ⟨H1.length, 0, none⟩) (dx.length + dy.length) (dx.length + dy.length) ∧ σ 8 = .int .i64 (i : Int) ∧ σ 9 = .int .u64 ((s.2.2 : Nat) : Int) ∧ σ 10 = .int .i64 (s.1 : Int)) (0, x % L.B32 ^ i * y, 0) ?_ ?_
   ·exact ⟨Nat.zero_le _, L.row_zero x y i, rfl, h5, h6, h7, h8, rfl, rfl⟩
   ·rintro ⟨j, N, c⟩ σ H2 ⟨j1, hR, rfl, h5, h6, h7, h8, h9, h10⟩
    simp only [] at j1 hR h9 h10
    by_cases hj : j < dy.length
    ·have f2 : ((j : Int) < ((dy.length : Nat) : Int)) = True := eq_true (by omega)
     obtain ⟨b2, o2, B2, rfl, hB2, hz2, hg2⟩ := hS2.word j hj
     rw [hgy j hj] at hg2
     have hm : i + j < dx.length + dy.length := by omega
     obtain ⟨N', n1, n2⟩ := L.row_step x y (dx.length + dy.length) i j N c hR hm
     have hxi : x / L.B32 ^ i % L.B32 < L.B32 := Nat.mod_lt _ (by decide)
     have hyj : y / L.B32 ^ j % L.B32 < L.B32 := Nat.mod_lt _ (by decide)
     have hz : N / L.B32 ^ (i + j) % L.B32 < L.B32 := Nat.mod_lt _ (by decide)
     have ht := L.mul_add_lt hxi hyj hz hR.2.2
     have hl : i + j < (L.digsN (dx.length + dy.length) N).length := by rw [L.digsN_len]; exact hm
     have hg : (L.digsN (dx.length + dy.length) N)[i + j] = N / L.B32 ^ (i + j) % L.B32 := (List.getElem?_eq_some_iff.1 (L.digsN_get (dx.length + dy.length) N (i + j) hm)).2
     have hlen2 := L.digsN_len (dx.length + dy.length) N
     have hgl := q0k _ _ hl
     have hpl := fun w => q0p _ _ w hl
     rw [hg] at hgl
     generalize L.digsN (dx.length + dy.length) N = dn at *
     generalize x / L.B32 ^ i % L.B32 = xi at *
     generalize y / L.B32 ^ j % L.B32 = yj at *
     generalize N / L.B32 ^ (i + j) % L.B32 = z at *
     have e8 : IntKind.i64.wrap ((i : Int) + (j : Int)) = ((i + j : Nat) : Int) := by rw [w64 (by omega) (by omega)]; omega
     have e9 : IntKind.i64.wrap ((j : Int) + 1) = ((j + 1 : Nat) : Int) := by rw [w64 (by omega) (by omega)]; omega
     simp only [L.B32] at ht n1 n2
     have c1 : IntKind.u64.wrap ((xi : Int) * (yj : Int)) = ((xi * yj : Nat) : Int) := by rw [q7p, Nat.mod_eq_of_lt (by omega)]
     have c2 : IntKind.u64.wrap ((z : Int) + ((xi * yj : Nat) : Int)) = ((xi * yj + z : Nat) : Int) := by rw [q2x, Nat.mod_eq_of_lt (by omega), Nat.add_comm]
     have c3 : IntKind.u64.wrap (((xi * yj + z : Nat) : Int) + (c : Int)) = ((xi * yj + z + c : Nat) : Int) := by rw [q2x, Nat.mod_eq_of_lt (by omega)]
     have c4 := q7k (xi * yj + z + c) (by omega)
     have c5 := shr32 (xi * yj + z + c)
     simp -dsimp only [go_sem, h5, h6, h7, h8, h9, h10, f2, q0u hB1, hz1, hg1, q0u hB2, hz2, hg2, hi, hj, hm, hl, hlen2, wblk, hgl, hpl, e8, e9, c1, c2, c3, c4, c5]
     refine ⟨hlo, ?_⟩
     exact next (j + 1, N', (xi * yj + z + c) / 4294967296) (by show dy.length - (j + 1) < dy.length - j; omega) ⟨hj, n2, by rw [n1], h5, h6, h7, h8, rfl, rfl⟩
    ·have hj' : j = dy.length := by omega
     subst hj'
     have hm : i + dy.length < dx.length + dy.length := by omega
     have hlast := L.row_last x y (dx.length + dy.length) i N c dy.length hyl hR hm
     have hl : i + dy.length < (L.digsN (dx.length + dy.length) N).length := by rw [L.digsN_len]; exact hm
     have hlen2 := L.digsN_len (dx.length + dy.length) N
     have hpl := fun w => q0p _ _ w hl
     generalize L.digsN (dx.length + dy.length) N = dn at *
     have e8 : IntKind.i64.wrap ((i : Int) + ((dy.length : Nat) : Int)) = ((i + dy.length : Nat) : Int) := by rw [w64 (by omega) (by omega)]; omega
     simp -dsimp only [go_sem, h5, h6, h7, h8, h9, h10, Int.lt_irrefl, hm, hl, hlen2, wblk, hpl, e7, e8, hlast]
     refine ⟨hlo, ?_⟩
     exact next (i + 1) (by show dx.length - (i + 1) < dx.length - i; omega) ⟨hi, rfl, h5, h6, h7, rfl⟩
  ·have hi' : i = dx.length := by omega
   subst hi'
   have hp := fun lk => w0i lk (H1 ++ [wblk (L.digsN (dx.length + dy.length) (x * y))]) (some ⟨H1.length, 0, none⟩) (L.digsN (dx.length + dy.length) (x * y)) (dx.length + dy.length) (L.digsN_len _ _).symm (by omega) (L.digsN_lt _ _) (SL.blk (by rw [lblk_w]; exact q0j _ _))
   rw [L.digsN_wval _ _ (by rw [Nat.pow_add]; exact Nat.mul_lt_mul'' hxl hyl)] at hp
   rw [Nat.mod_eq_of_lt hxl]
   simp -dsimp only [go_sem, h5, h6, h7, h8, Int.lt_irrefl, hp]
namespace L
theorem div_step (x i : Nat) : x / B32 ^ i = x / B32 ^ (i + 1) * B32 + x / B32 ^ i % B32 := by
 rw [Nat.pow_succ, ← Nat.div_div_eq_div_mul]
 have := Nat.div_add_mod (x / B32 ^ i) B32
 rw [Nat.mul_comm] at this; exact this.symm
end L
theorem r1_below (lk : Nat) (H : Heap) (a a2 : Option Addr) (ws : List Nat) (V n m : Nat) (hn : n = ws.length) (hm : m = (L.digs V).length) (hl : n < 1000000000) (hw : ∀ w ∈ ws, w < L.B32) (hs : SL H a ws) (hs2 : SL H a2 (L.digs V)) :
  q0c prog md lk 225 [.slice a n n, .slice a2 m m] H = some (.bool (decide (L.wval ws < V)), H) := by
 subst hn; subst hm
 refine q0a rfl Tryz.func225 rfl rfl ?_
 have ht := fun lk => r1_trim lk H a ws ws.length rfl (by omega) hs
 have t1 := L.trim_eq ws hw
 have t2 := L.trim_len ws hw
 have tle := q2v ws ws.length
 rw [t2] at ht t1 tle
 have hs := hs.take _ tle
 rw [t1] at hs
 generalize L.wval ws = X at *
 have hlt1 := @L.digs_len_lt X V
 have hlt2 := @L.digs_len_lt V X
 have hxl := L.lt_pow_digs X
 have hyl := L.lt_pow_digs V
 have hgx := L.digs_get X
 have hgy := L.digs_get V
 have hxw := L.digs_lt X
 have hyw := L.digs_lt V
 generalize L.digs X = dx at *
 generalize L.digs V = dy at *
 by_cases hne : dx.length = dy.length
 ·have ei : IntKind.i64.wrap ((dx.length : Int) - 1) = (dx.length : Int) - 1 := w64 (by omega) (by omega)
  have f0 : (((dx.length : Nat) : Int) = ((dy.length : Nat) : Int)) = True := eq_true (by omega)
  simp -dsimp only [go_sem, ht, f0, ei]
  refine q0h (m := id) (I := fun i σ H' => i ≤ dx.length ∧ X / L.B32 ^ i = V / L.B32 ^ i ∧ H = H' ∧ σ 0 = .slice a dx.length dx.length ∧ σ 1 = .slice a2 dy.length dy.length ∧ σ 5 = .int .i64 ((i : Int) - 1)) dx.length ?_ ?_
  ·exact ⟨Nat.le_refl _, by rw [Nat.div_eq_of_lt hxl, Nat.div_eq_of_lt (by rw [hne]; exact hyl)], rfl, rfl, rfl, rfl⟩
  ·rintro i' σ H' ⟨h1, h2, rfl, h0, h1', h5⟩
   by_cases hi : i' = 0
   ·subst hi
    simp only [Nat.pow_zero, Nat.div_one] at h2
    rw [show ((0 : Nat) : Int) - 1 = -1 from rfl] at h5
    have : (X < V) = False := by simp [h2]
    simp -dsimp only [go_sem, h5, this]
   ·obtain ⟨k, rfl⟩ : ∃ k, i' = k + 1 := ⟨i' - 1, by omega⟩
    have hk : k < dx.length := by omega
    have hk' : k < dy.length := by omega
    have e5 : ((k + 1 : Nat) : Int) - 1 = (k : Int) := by omega
    have e6 : IntKind.i64.wrap ((k : Int) - 1) = (k : Int) - 1 := w64 (by omega) (by omega)
    have dx1 := L.div_step X k
    have dy1 := L.div_step V k
    rw [← hgx k hk, h2] at dx1
    rw [← hgy k hk'] at dy1
    have hp : (0 ≤ (k : Int)) = True := by simp
    rw [e5] at h5
    obtain ⟨b1, o1, B1, rfl, hB1, hz1, hg1⟩ := hs.word k hk
    obtain ⟨b2, o2, B2, rfl, hB2, hz2, hg2⟩ := hs2.word k hk'
    have hxk := hxw _ (List.getElem_mem hk)
    have hyk := hyw _ (List.getElem_mem hk')
    by_cases he : dx[k] = dy[k]
    ·have f1 : ((dx[k] : Int) = (dy[k] : Int)) = True := eq_true (by omega)
     simp -dsimp only [go_sem, h0, h1', h5, hp, hB1, hz1, hg1, hB2, hz2, hg2, hk, hk', f1, e6]
     refine next k (by show k < k + 1; omega) ⟨by omega, ?_, rfl, h0, h1', rfl⟩
     rw [dx1, dy1, he]
    ·have f1 : ((dx[k] : Int) = (dy[k] : Int)) = False := eq_false (by omega)
     have f2 : (dx[k] < dy[k]) = (X < V) := by
      apply propext
      constructor
      ·intro hl
       exact w1n (M := L.B32 ^ k) (by rw [dx1, dy1]; omega)
      ·intro hl
       apply Decidable.byContradiction
       intro hc
       have : V < X := w1n (M := L.B32 ^ k) (by rw [dx1, dy1]; omega)
       omega
     simp -dsimp only [go_sem, h0, h1', h5, hp, hB1, hz1, hg1, hB2, hz2, hg2, hk, hk', f1]
     congr 1
     simp only [f2]
 ·have f0 : (((dx.length : Nat) : Int) = ((dy.length : Nat) : Int)) = False := eq_false (by omega)
  have f2 : (dx.length < dy.length) = (X < V) := by
   apply propext
   exact ⟨fun h => hlt1 h, fun h => by
    apply Decidable.byContradiction
    intro hc
    have := hlt2 (by omega)
    omega⟩
  simp -dsimp only [go_sem, ht, f0]
  congr 1
  simp only [f2]
namespace L
theorem digsN_drop (m k x : Nat) : (digsN m x).drop k = digsN (m - k) (x / B32 ^ k) := by
 induction k generalizing m x with
 | zero => simp
 | succ k ih =>
  cases m with
  | zero => simp [digsN]
  | succ m => rw [digsN, List.drop_succ_cons, ih, Nat.div_div_eq_div_mul, Nat.pow_succ, Nat.mul_comm B32, Nat.succ_sub_succ]
theorem digs_zero_snoc (x : Nat) : digs x ++ [0] = digsN ((digs x).length + 1) x := by
 rw [← digsN_snoc, digsN_digs, Nat.div_eq_of_lt (lt_pow_digs x), Nat.zero_mod]
end L
theorem r1_DivMod (lk : Nat) (H : Heap) (x y : Nat) (hx : (q0b x).length < 100000000) (hy : (q0b y).length < 100000000) (hy0 : y ≠ 0) : q0c prog md lk 196 [.string (mkS (q0b x)), .string (mkS (q0b y))] H = some (.tuple #[.string (mkS (q0b (x / y))), .string (mkS (q0b (x % y)))], H) := by
 refine q0a rfl Tryz.func196 rfl rfl ?_
 have hyn : q0b y = [] ↔ False := by rw [q1b]; simp [hy0]
 have hA := fun lk => q5z lk H x (by omega)
 have hB := fun lk => q5z lk (H ++ mkN (L.digs x)) y (by omega)
 have hdy := ldigs_ne hy0
 obtain ⟨low, hn1⟩ := L.digs_low y hy0
 rw [mkN_ne hdy, mkA_ne _ hdy] at hB
 have lx := L.digs_len_bytes x
 have ly := L.digs_len_bytes y
 have hO := (mk_own H (L.digs x)).more [lblk (L.digs y)]
 have hap := fun t t2 => ap_own (P := prog) (lk := H.length) (t := t) (t2 := t2) hO (Nat.le_refl _) rfl [.int .u64 0] 1 rfl rfl
 have hyl0 : q0e (H ++ mkN (L.digs x) ++ [lblk (L.digs y)]) (H.length + (mkN (L.digs x)).length) = some (lblk (L.digs y)) := by
  have := q0j (H := H ++ mkN (L.digs x)) (q0g (L.digs y)) (Enc.n Nat)
  rw [List.length_append] at this; exact this
 have hkill : q0e (kill (H ++ mkN (L.digs x) ++ [lblk (L.digs y)] ++ [(⟨[.int .u64 0], 1, false⟩ : Blk)]) (mkA H (L.digs x))) (H.length + (mkN (L.digs x)).length) = some (lblk (L.digs y)) := by
  refine q4f (q0u hyl0) ?_
  intro c o e h
  by_cases h0 : L.digs x = []
  ·rw [h0] at h; cases h
  ·rw [mkA_ne _ h0] at h
   cases h
   rw [mkN_ne h0]; simp
 have hklen : (kill (H ++ mkN (L.digs x) ++ [lblk (L.digs y)] ++ [(⟨[.int .u64 0], 1, false⟩ : Blk)]) (mkA H (L.digs x))).length = H.length + (mkN (L.digs x)).length + 2 := by rw [q9e]; simp; omega
 have hsn : q0g (L.digs x) ++ [.int .u64 0] = q1j (L.digsN ((L.digs x).length + 1) x) := by
  rw [← L.digs_zero_snoc, ← cells_w, w1z]; rfl
 simp only [List.append_assoc, List.cons_append, List.nil_append, List.length_append, List.length_cons, List.length_nil] at hA hB hap hkill hklen
 have e1 : IntKind.i64.wrap (((L.digs x).length : Int) - ((L.digs y).length : Int)) = ((L.digs x).length : Int) - ((L.digs y).length : Int) := w64 (by omega) (by omega)
 have e2 : IntKind.i64.wrap (((L.digs x).length : Int) - ((L.digs y).length : Int) + 1) = ((L.digs x).length : Int) - ((L.digs y).length : Int) + 1 := w64 (by omega) (by omega)
 have e3 : (if ((L.digs x).length : Int) - ((L.digs y).length : Int) + 1 > 0 then ((L.digs x).length : Int) - ((L.digs y).length : Int) + 1 else 0) = (((L.digs x).length + 1 - (L.digs y).length : Nat) : Int) := by split <;> omega
 have e4 : IntKind.i64.wrap ((((L.digs x).length + 1 - (L.digs y).length : Nat) : Int) - 1) = (((L.digs x).length + 1 - (L.digs y).length : Nat) : Int) - 1 := w64 (by omega) (by omega)
 simp -dsimp only [go_sem, hyn, hA, hB, reps, hap, e1, e2, e3, e4, hsn]
 refine ⟨by omega, by omega, ?_⟩
 rw [show H.length + ((mkN (L.digs x)).length + 1) + 1 = H.length + (mkN (L.digs x)).length + 2 by omega, show H.length + ((mkN (L.digs x)).length + 2) + 1 = H.length + (mkN (L.digs x)).length + 2 + 1 by omega, ← hklen]
 have hlo : H.length ≤ (kill (H ++ (mkN (L.digs x) ++ [lblk (L.digs y), (⟨[.int .u64 0], 1, false⟩ : Blk)])) (mkA H (L.digs x))).length := by omega
 clear hA hB hap hO hyl0 hsn hdy hyn e1 e2 e3 hklen
 generalize kill (H ++ (mkN (L.digs x) ++ [lblk (L.digs y), (⟨[.int .u64 0], 1, false⟩ : Blk)])) (mkA H (L.digs x)) = K at *
 generalize H.length + (mkN (L.digs x)).length = yb at *
 have hxl := L.lt_pow_digs x
 have hyl := L.lt_pow_digs y
 have hstart := L.Long.start hxl low hn1
 have hyS : SL K (some ⟨yb, 0, none⟩) (L.digs y) := SL.blk hkill
 rw [lblk_w] at hkill
 have hgy := L.digs_get y
 have hdy2 := L.digs_lt y
 have hy1 : 0 < y := Nat.pos_of_ne_zero hy0
 have e4' : ((L.digs x).length + 1 - (L.digs y).length : Nat) + (L.digs y).length ≤ (L.digs x).length + 1 ∨ (L.digs x).length + 1 - (L.digs y).length = 0 := by omega
 have hmle : (L.digs x).length + 1 - (L.digs y).length ≤ (L.digs x).length := by omega
 generalize hmm : (L.digs x).length + 1 - (L.digs y).length = m at *
 generalize (L.digs x).length = na at *
 have hns : (L.digs y).length < 100000000 := by omega
 refine q0h (m := fun (s : Nat × Nat × Nat) => s.1) (I := fun s σ H2 => s.1 ≤ m ∧ L.Long x y s.1 s.2.1 s.2.2 ∧ H2 = K ++ [wblk (L.digsN (na + 1) s.2.2), wblk (L.digsN m (s.2.1 * L.B32 ^ s.1))] ∧ σ 7 = .slice (some ⟨yb, 0, none⟩) (L.digs y).length (L.digs y).length ∧ σ 8 = .int .i64 ((L.digs y).length : Int) ∧ σ 9 = .slice (some ⟨K.length, 0, none⟩) (na + 1) (na + 1) ∧ σ 10 = .slice (some ⟨K.length + 1, 0, none⟩) m m ∧ σ 11 = .int .i64 ((s.1 : Int) - 1)) (m, 0, x) ?_ ?_
 ·refine ⟨Nat.le_refl _, hstart, ?_, rfl, rfl, rfl, rfl, rfl⟩
  simp only [Nat.zero_mul]
  rw [L.digsN_zero, q3j]; rfl
 ·rintro ⟨i', Q, R⟩ σ H2 ⟨h1, hL, rfl, h7, h8, h9, h10, h11⟩
  simp only [] at h1 hL h11
  have hRx : R < L.B32 ^ na := by have := hL.eq; omega
  by_cases hi : i' = 0
  ·subst hi
   obtain ⟨q1, q2⟩ := hL.fin
   subst q1; subst q2
   rw [show ((0 : Nat) : Int) - 1 = -1 from rfl] at h11
   have hql : x / y < L.B32 ^ m := by
    have h3 := hstart.lt
    rw [Nat.div_lt_iff_lt_mul hy1, Nat.mul_comm]; exact h3
   have hrl : x % y < L.B32 ^ (na + 1) := by rw [Nat.pow_succ]; simp only [L.B32] at *; omega
   have hp1 := fun lk => w0i lk (K ++ [wblk (L.digsN (na + 1) (x % y)), wblk (L.digsN m (x / y))]) (some ⟨K.length + 1, 0, none⟩) (L.digsN m (x / y)) m (L.digsN_len _ _).symm (by omega) (L.digsN_lt _ _) (SL.blk (by rw [lblk_w]; simp -dsimp only [go_sem, wblk]))
   have hp2 := fun lk => w0i lk (K ++ [wblk (L.digsN (na + 1) (x % y)), wblk (L.digsN m (x / y))]) (some ⟨K.length, 0, none⟩) (L.digsN (na + 1) (x % y)) (na + 1) (L.digsN_len _ _).symm (by omega) (L.digsN_lt _ _) (SL.blk (by rw [lblk_w]; simp -dsimp only [go_sem, wblk]))
   rw [L.digsN_wval _ _ hql] at hp1
   rw [L.digsN_wval _ _ hrl] at hp2
   rw [Nat.pow_zero, Nat.mul_one]
   simp -dsimp only [go_sem, h9, h10, h11, hp1, hp2]
  ·obtain ⟨k, rfl⟩ : ∃ k, i' = k + 1 := ⟨i' - 1, by omega⟩
   have e5 : ((k + 1 : Nat) : Int) - 1 = (k : Int) := by omega
   have hp : (0 ≤ (k : Int)) = True := by simp
   rw [e5] at h11
   simp -dsimp only [go_sem, h11, hp]
   have hkn : k + (L.digs y).length < na + 1 := by omega
   have hkm : k < m := by omega
   refine q0h (m := fun (s : Nat × Nat) => s.2) (I := fun s σ H2 => R = s.2 + s.1 * y * L.B32 ^ k ∧ H2 = K ++ [wblk (L.digsN (na + 1) s.2), wblk (L.digsN m ((Q * L.B32 + s.1) * L.B32 ^ k))] ∧ σ 7 = .slice (some ⟨yb, 0, none⟩) (L.digs y).length (L.digs y).length ∧ σ 8 = .int .i64 ((L.digs y).length : Int) ∧ σ 9 = .slice (some ⟨K.length, 0, none⟩) (na + 1) (na + 1) ∧ σ 10 = .slice (some ⟨K.length + 1, 0, none⟩) m m ∧ σ 11 = .int .i64 (k : Int)) (0, R) ?_ ?_
   ·refine ⟨by simp, ?_, h7, h8, h9, h10, h11⟩
    have : Q * L.B32 ^ (k + 1) = (Q * L.B32 + 0) * L.B32 ^ k := by rw [Nat.pow_succ]; grind
    simp only [this]
   ·rintro ⟨g, R'⟩ σ H2 ⟨hR, rfl, h7, h8, h9, h10, h11⟩
    simp only [] at hR
    have hR'R : R' ≤ R := by omega
    have hR'x : R' < L.B32 ^ na := by omega
    have hsd := (SL.blk (H := K ++ [wblk (L.digsN (na + 1) R'), wblk (L.digsN m ((Q * L.B32 + g) * L.B32 ^ k))]) (b := K.length) (l := L.digsN (na + 1) R') (by rw [lblk_w]; simp -dsimp only [go_sem, wblk])).drop k (by rw [L.digsN_len]; omega)
    rw [L.digsN_drop] at hsd
    have hoff : 0 + k * Enc.n Nat = k := by show 0 + k * 1 = k; omega
    rw [hoff] at hsd
    have hb := fun lk => r1_below lk (K ++ [wblk (L.digsN (na + 1) R'), wblk (L.digsN m ((Q * L.B32 + g) * L.B32 ^ k))]) (some ⟨K.length, k, none⟩) (some ⟨yb, 0, none⟩) (L.digsN (na + 1 - k) (R' / L.B32 ^ k)) y (na + 1 - k) (L.digs y).length (L.digsN_len _ _).symm rfl (by omega) (L.digsN_lt _ _) hsd ((Ext.app K _).sl hyS)
    have hval : R' / L.B32 ^ k < L.B32 ^ (na + 1 - k) := by
     rw [Nat.div_lt_iff_lt_mul (Nat.pow_pos (by decide)), ← Nat.pow_add, show na + 1 - k + k = na + 1 by omega, Nat.pow_succ]
     simp only [L.B32] at *; omega
    rw [L.digsN_wval _ _ hval] at hb
    have hkna : k ≤ na + 1 := by omega
    have hwsz : ∀ l, (wblk l).sz = 1 := fun _ => rfl
    by_cases hbel : R' / L.B32 ^ k < y
    ·have hbel' : (R' / L.B32 ^ k < y) = True := eq_true hbel
     have hst := hL.step hR hbel
     have e6 : IntKind.i64.wrap ((k : Int) - 1) = (k : Int) - 1 := w64 (by omega) (by omega)
     simp -dsimp only [go_sem, h7, h8, h9, h10, h11, hkna, hwsz, hb, hbel', e6]
     exact next (k, Q * L.B32 + g, R') (by show k < k + 1; omega) ⟨by simp only []; omega, hst, rfl, h7, h8, h9, h10, rfl⟩
    ·have hbel' : (R' / L.B32 ^ k < y) = False := eq_false hbel
     obtain ⟨q1, q2, q3, q4, q5, q6⟩ := L.guess_ok R' y k (L.digs y).length hn1 hyl low (by have := hL.lt; omega) (by omega)
     obtain ⟨q7, q8, q9, q10⟩ := q6 _ rfl
     have e7 : IntKind.i64.wrap ((k : Int) + ((L.digs y).length : Int)) = ((k + (L.digs y).length : Nat) : Int) := by rw [w64 (by omega) (by omega)]; omega
     have e8 : IntKind.i64.wrap (((k + (L.digs y).length : Nat) : Int) - 1) = ((k + (L.digs y).length - 1 : Nat) : Int) := by rw [w64 (by omega) (by omega)]; omega
     have e9 : IntKind.i64.wrap (((L.digs y).length : Int) - 1) = (((L.digs y).length - 1 : Nat) : Int) := by rw [w64 (by omega) (by omega)]; omega
     have hl1 : k + (L.digs y).length < (L.digsN (na + 1) R').length := by rw [L.digsN_len]; exact hkn
     have hl2 : k + (L.digs y).length - 1 < (L.digsN (na + 1) R').length := by rw [L.digsN_len]; omega
     have hl3 : (L.digs y).length - 1 < (L.digs y).length := by omega
     have hl4 : k < (L.digsN m ((Q * L.B32 + g) * L.B32 ^ k)).length := by rw [L.digsN_len]; exact hkm
     have hkn2 : k + (L.digs y).length - 1 < na + 1 := by omega
     have hg1 : (L.digsN (na + 1) R')[k + (L.digs y).length] = R' / L.B32 ^ (k + (L.digs y).length) % L.B32 := (List.getElem?_eq_some_iff.1 (L.digsN_get _ _ _ hkn)).2
     have hg2 : (L.digsN (na + 1) R')[k + (L.digs y).length - 1] = R' / L.B32 ^ (k + (L.digs y).length - 1) % L.B32 := (List.getElem?_eq_some_iff.1 (L.digsN_get _ _ _ hkn2)).2
     have hg3 : (L.digs y)[(L.digs y).length - 1] = y / L.B32 ^ ((L.digs y).length - 1) := by rw [hgy _ hl3, q4]
     have hgB : g < L.B32 := L.g_lt hy1 hL.lt hR
     have hg4 : (L.digsN m ((Q * L.B32 + g) * L.B32 ^ k))[k] = g := (List.getElem?_eq_some_iff.1 (L.long_get m Q g k hkm hgB)).2
     have w1 := q0k _ _ hl1
     have w2 := q0k _ _ hl2
     have w3 := q0k _ _ hl3
     have w4 := q0k _ _ hl4
     rw [hg1] at w1
     rw [hg2] at w2
     rw [hg3] at w3
     rw [hg4] at w4
     have p4 := fun w => q0p _ _ w hl4
     have hz1 : R' / L.B32 ^ (k + (L.digs y).length) % L.B32 < 4294967296 := Nat.mod_lt _ (by decide)
     generalize hG : max 1 (R' / L.B32 ^ (k + (L.digs y).length - 1) / (y / L.B32 ^ ((L.digs y).length - 1) + 1)) = G at *
     have hgG : g + G < L.B32 := by
      refine L.g_lt (R := R) (R' := R' - G * y * L.B32 ^ k) (k := k) hy1 hL.lt ?_
      rw [Nat.add_mul, Nat.add_mul]; omega
     have hset := L.long_set m Q g (g + G) k hkm hgB hgG
     simp only [L.B32] at q5 hgG
     generalize hv : y / L.B32 ^ ((L.digs y).length - 1) = v at *
     have c1 : IntKind.u64.wrap (((R' / L.B32 ^ (k + (L.digs y).length) % L.B32 : Nat) : Int) * 4294967296) = ((R' / L.B32 ^ (k + (L.digs y).length) % L.B32 * 4294967296 : Nat) : Int) := by
      rw [shl32, Nat.mod_eq_of_lt (by omega)]
     have c2 : IntKind.u64.wrap (((R' / L.B32 ^ (k + (L.digs y).length) % L.B32 * 4294967296 : Nat) : Int) + ((R' / L.B32 ^ (k + (L.digs y).length - 1) % L.B32 : Nat) : Int)) = ((R' / L.B32 ^ (k + (L.digs y).length - 1) : Nat) : Int) := by
      rw [q2x, q2, Nat.mod_eq_of_lt q3]
     have c3 : IntKind.u64.wrap (((v : Nat) : Int) + 1) = ((v + 1 : Nat) : Int) := by
      rw [IntKind.wrap_u64]; omega
     have c3' : (((v + 1 : Nat) : Int) = 0) = False := eq_false (by omega)
     have c4 := u64quo (R' / L.B32 ^ (k + (L.digs y).length - 1)) (v + 1) q3
     have c5 : (if ((R' / L.B32 ^ (k + (L.digs y).length - 1) / (v + 1) : Nat) : Int) > 1 then ((R' / L.B32 ^ (k + (L.digs y).length - 1) / (v + 1) : Nat) : Int) else 1) = ((G : Nat) : Int) := by
      rw [← hG]; split <;> omega
     have c6 : IntKind.u64.wrap ((g : Int) + (G : Int)) = ((g + G : Nat) : Int) := by rw [q2x, Nat.mod_eq_of_lt (by omega)]
     have lenR := L.digsN_len (na + 1) R'
     have lenQ := L.digsN_len m ((Q * L.B32 + g) * L.B32 ^ k)
     have hky := q0u (N := [(⟨q1j (L.digsN (na + 1) R'), 1, false⟩ : Blk), ⟨q1j (L.digsN m ((Q * L.B32 + g) * L.B32 ^ k)), 1, false⟩]) hkill
     simp only [wblk] at hky hb
     simp -dsimp only [go_sem, h7, h8, h9, h10, h11, hkna, hwsz, wblk, hb, hbel', e7, e8, e9, hkn, hkn2, hkm, hl3, hl4, w1, w2, w3, w4, p4, c1, c2, c3, c3', c4, c5, c6, hky, lenR, lenQ]
     refine ⟨by omega, by omega, ?_⟩
     clear c1 c2 c3 c3' c4 c5 c6 w1 w2 w3 w4 p4 hky hb
     refine q0h (m := fun (s : Nat × Nat × Nat) => (L.digs y).length - s.1) (I := fun s σ H2 => s.1 ≤ (L.digs y).length ∧ L.Sub1 R' G y k s.1 s.2.1 s.2.2 ∧ H2 = K ++ [wblk (L.digsN (na + 1) s.2.1), wblk (L.digsN m ((Q * L.B32 + (g + G)) * L.B32 ^ k))] ∧ σ 7 = .slice (some ⟨yb, 0, none⟩) (L.digs y).length (L.digs y).length ∧ σ 8 = .int .i64 ((L.digs y).length : Int) ∧ σ 9 = .slice (some ⟨K.length, 0, none⟩) (na + 1) (na + 1) ∧ σ 10 = .slice (some ⟨K.length + 1, 0, none⟩) m m ∧ σ 11 = .int .i64 (k : Int) ∧ σ 12 = .int .u64 (G : Int) ∧ σ 13 = .int .u64 (s.2.2 : Int) ∧ σ 14 = .int .i64 (s.1 : Int)) (0, R', 0) ?_ ?_
     ·refine ⟨Nat.zero_le _, L.sub1_zero _ _ _ _, ?_, h7, h8, h9, h10, h11, rfl, rfl, rfl⟩
      rw [hset]; rfl
     ·rintro ⟨i, M, c⟩ σ H2 ⟨i1, hS, rfl, h7, h8, h9, h10, h11, h12, h13, h14⟩
      simp only [] at i1 hS h13 h14
      by_cases hin : i < (L.digs y).length
      ·have f1 : ((i : Int) < (((L.digs y).length : Nat) : Int)) = True := eq_true (by omega)
       have hyi : y / L.B32 ^ i % L.B32 < L.B32 := Nat.mod_lt _ (by decide)
       have hki : k + i < na + 1 := by omega
       have w1 := q0k _ _ hin
       rw [hgy i hin] at w1
       obtain ⟨M', n1, n2⟩ := L.sub1_step (na + 1) R' G y k i M c hki q8 hS
       obtain ⟨p1, p2, _⟩ := L.sub1_p q8 hyi hS.2.2
       have hl : k + i < (L.digsN (na + 1) M).length := by rw [L.digsN_len]; exact hki
       have lenM := L.digsN_len (na + 1) M
       have hgM : (L.digsN (na + 1) M)[k + i] = M / L.B32 ^ (k + i) % L.B32 := (List.getElem?_eq_some_iff.1 (L.digsN_get _ _ _ hki)).2
       have w2 := q0k _ _ hl
       rw [hgM] at w2
       have pp := fun w => q0p _ _ w hl
       have hz : M / L.B32 ^ (k + i) % L.B32 < 4294967296 := Nat.mod_lt _ (by decide)
       generalize L.digsN (na + 1) M = dn at *
       generalize M / L.B32 ^ (k + i) % L.B32 = z at *
       generalize y / L.B32 ^ i % L.B32 = yi at *
       simp only [L.B32] at n1 n2
       have e10 : IntKind.i64.wrap ((k : Int) + (i : Int)) = ((k + i : Nat) : Int) := by rw [w64 (by omega) (by omega)]; omega
       have e11 : IntKind.i64.wrap ((i : Int) + 1) = ((i + 1 : Nat) : Int) := by rw [w64 (by omega) (by omega)]; omega
       have c1 : IntKind.u64.wrap ((yi : Int) * (G : Int)) = ((yi * G : Nat) : Int) := by rw [q7p, Nat.mod_eq_of_lt (by omega)]
       have c2 : IntKind.u64.wrap (((yi * G : Nat) : Int) + (c : Int)) = ((yi * G + c : Nat) : Int) := by rw [q2x, Nat.mod_eq_of_lt (by omega)]
       have c3 := shr32 (yi * G + c)
       have c4 := q7k (yi * G + c) p1
       have hky := q0u (N := [(⟨q1j dn, 1, false⟩ : Blk), ⟨q1j (L.digsN m ((Q * L.B32 + (g + G)) * L.B32 ^ k)), 1, false⟩]) hkill
       simp only [wblk] at hky
       have hlK : H.length ≤ K.length := hlo
       by_cases hbo : z < (yi * G + c) % 4294967296
       ·have f2 : ((z : Int) < (((yi * G + c) % 4294967296 : Nat) : Int)) = True := eq_true (by omega)
        rw [if_pos hbo] at n1 n2
        have c5 : IntKind.u64.wrap ((z : Int) + 4294967296) = ((z + 4294967296 : Nat) : Int) := by rw [IntKind.wrap_u64]; omega
        have hl3 : k + i < (dn.set (k + i) (z + 4294967296)).length := by rw [List.length_set]; exact hl
        have w3 := q0k _ _ hl3
        have hg3 : (dn.set (k + i) (z + 4294967296))[k + i] = z + 4294967296 := List.getElem_set_self _
        rw [hg3] at w3
        have pp3 := fun w => q0p _ _ w hl3
        have c6 : IntKind.u64.wrap (((z + 4294967296 : Nat) : Int) - (((yi * G + c) % 4294967296 : Nat) : Int)) = ((z + 1 * 4294967296 - (yi * G + c) % 4294967296 : Nat) : Int) := by rw [IntKind.wrap_u64]; omega
        have c7 : IntKind.u64.wrap ((((yi * G + c) / 4294967296 : Nat) : Int) + 1) = (((yi * G + c) / 4294967296 + 1 : Nat) : Int) := by rw [IntKind.wrap_u64]; omega
        rw [Nat.one_mul] at c6 n1
        simp -dsimp only [go_sem, h7, h8, h9, h10, h11, h12, h13, h14, f1, f2, wblk, hky, w1, w2, w3, pp, pp3, hin, hki, hl, hl3, lenM, e10, e11, c1, c2, c3, c4, c5, c6, c7, hlK, List.set_set, List.length_set]
        exact next (i + 1, M', (yi * G + c) / 4294967296 + 1) (by show (L.digs y).length - (i + 1) < (L.digs y).length - i; omega) ⟨hin, n2, by rw [n1], h7, h8, h9, h10, h11, h12, rfl, rfl⟩
       ·have f2 : ((z : Int) < (((yi * G + c) % 4294967296 : Nat) : Int)) = False := eq_false (by omega)
        rw [if_neg hbo] at n1 n2
        have c6 : IntKind.u64.wrap ((z : Int) - (((yi * G + c) % 4294967296 : Nat) : Int)) = ((z + 0 * 4294967296 - (yi * G + c) % 4294967296 : Nat) : Int) := by rw [IntKind.wrap_u64]; omega
        simp only [Nat.zero_mul, Nat.add_zero] at c6 n1
        rw [Nat.add_zero] at n2
        simp -dsimp only [go_sem, h7, h8, h9, h10, h11, h12, h13, h14, f1, f2, wblk, hky, w1, w2, pp, hin, hki, hl, lenM, e10, e11, c1, c2, c3, c4, c6, hlK]
        exact next (i + 1, M', (yi * G + c) / 4294967296) (by show (L.digs y).length - (i + 1) < (L.digs y).length - i; omega) ⟨hin, n2, by rw [n1], h7, h8, h9, h10, h11, h12, rfl, rfl⟩
      ·have hi' : i = (L.digs y).length := by omega
       subst hi'
       obtain ⟨l1, l2⟩ := L.sub1_last (na + 1) R' G y k (L.digs y).length M c hkn hyl q1 q10 hS
       have hl : k + (L.digs y).length < (L.digsN (na + 1) M).length := by rw [L.digsN_len]; exact hkn
       have lenM := L.digsN_len (na + 1) M
       have hgM : (L.digsN (na + 1) M)[k + (L.digs y).length] = M / L.B32 ^ (k + (L.digs y).length) % L.B32 := (List.getElem?_eq_some_iff.1 (L.digsN_get _ _ _ hkn)).2
       have w2 := q0k _ _ hl
       rw [hgM] at w2
       have pp := fun w => q0p _ _ w hl
       have hz : M / L.B32 ^ (k + (L.digs y).length) % L.B32 < 4294967296 := Nat.mod_lt _ (by decide)
       generalize L.digsN (na + 1) M = dn at *
       generalize M / L.B32 ^ (k + (L.digs y).length) % L.B32 = z at *
       have c6 : IntKind.u64.wrap ((z : Int) - (c : Int)) = ((z - c : Nat) : Int) := by rw [IntKind.wrap_u64]; omega
       simp -dsimp only [go_sem, h7, h8, h9, h10, h11, h12, h13, h14, Int.lt_irrefl, wblk, w2, pp, hkn, hl, lenM, e7, c6, hlo, l2]
       have hGy : 1 ≤ G * y * L.B32 ^ k := Nat.mul_pos (Nat.mul_pos q7 hy1) (Nat.pow_pos (by decide))
       refine next (g + G, R' - G * y * L.B32 ^ k) (by show R' - G * y * L.B32 ^ k < R'; omega) ⟨?_, rfl, h7, h8, h9, h10, h11⟩
       simp only []
       rw [Nat.add_mul, Nat.add_mul]; omega
theorem r1_Gcd (lk : Nat) (H : Heap) (a b : Nat) (hla : (q0b a).length < 100000000) (hlb : (q0b b).length < 100000000) :
  q0c prog md lk 184 [.string (mkS (q0b a)), .string (mkS (q0b b))] H = some (.string (mkS (q0b (Nat.gcd a b))), H) := by
 refine q0a rfl Tryz.func184 rfl rfl ?_
 simp -dsimp only [go_sem]
 refine q0h (m := fun (s : Nat × Nat) => s.2) (I := fun s σ H' => H' = H ∧ Nat.gcd s.1 s.2 = Nat.gcd a b ∧ (q0b s.1).length < 100000000 ∧ (q0b s.2).length < 100000000 ∧ σ 0 = .string (mkS (q0b s.1)) ∧ σ 1 = .string (mkS (q0b s.2))) (a, b) ⟨rfl, rfl, hla, hlb, rfl, rfl⟩ ?_
 rintro ⟨x, y⟩ σ H' ⟨rfl, h1, h2, h3, h4, h5⟩
 simp only [] at h1 h2 h3 h4 h5
 by_cases hy : y = 0
 ·subst hy
  rw [Nat.gcd_zero_right] at h1
  subst h1
  simp only [q1c] at h5
  simp -dsimp only [go_sem, h4, h5]
 ·have hyn : q0b y = [] ↔ False := by rw [q1b]; simp [hy]
  have hd := fun lk => r1_DivMod lk H' x y h2 h3 hy
  have hl := Nat.mod_lt x (Nat.pos_of_ne_zero hy)
  have := q8p (Nat.le_of_lt hl)
  simp -dsimp only [go_sem, h4, h5, hyn, hd]
  exact next (y, x % y) hl ⟨rfl, by simp only []; rw [← h1, Nat.gcd_comm x y, Nat.gcd_rec y x, Nat.gcd_comm], h3, by simp only []; omega, rfl, rfl⟩
theorem w2o (lk : Nat) (H : Heap) (b : Bool) (n : Nat) : q0c prog md lk 191 [.bool b, .string (mkS (q0b n))] H = some (vI (sg b n), H) := by
 rw [← vI_make]
 refine q0a rfl Tryz.func191 rfl rfl ?_
 cases b <;> simp -dsimp only [go_sem]
theorem r2_FromInt (lk : Nat) (H : Heap) (x : Int) (hx : I64 x) : q0c prog md lk 76 [.int .i64 x] H = some (vI x, H) := by
 refine q0a rfl Tryz.func76 rfl rfl ?_
 obtain ⟨h1, h2⟩ := hx
 have hn := fun lk H' => r1_Of lk H' x.natAbs (by simp only [B64]; omega)
 by_cases h : x < 0
 ·have e1 : IntKind.u64.wrap (IntKind.u64.wrap (IntKind.i64.wrap (0 - IntKind.i64.wrap (x + 1))) + 1) = ((x.natAbs : Nat) : Int) := by
   rw [IntKind.wrap_u64, IntKind.wrap_u64, IntKind.wrap_i64, IntKind.wrap_i64]; omega
  simp -dsimp only [go_sem, h, e1, hn]
  rw [vI_neg _ (by omega), show -(x.natAbs : Int) = x by omega]
 ·simp -dsimp only [go_sem, h, u64_pos (Int.not_lt.1 h) h2, hn]
  rw [vI_pos, show (x.natAbs : Int) = x by omega]
theorem natAbs_zero_iff (z : Int) : q0b z.natAbs = [] ↔ z = 0 := by rw [q1b]; omega
def sgn (z : Int) : Int := if z < 0 then -1 else if z = 0 then 0 else 1
theorem r2_Sign (lk : Nat) (H : Heap) (z : Int) : q0c prog md lk 185 [vI z] H = some (.int .i64 (sgn z), H) := by
 unfold sgn
 refine q0a rfl Tryz.func185 rfl rfl ?_
 by_cases h : z < 0
 ·simp -dsimp only [go_sem, h]
 ·by_cases h0 : z = 0
  ·subst h0; simp -dsimp only [go_sem, Int.lt_irrefl, Int.natAbs_zero]
  ·simp -dsimp only [go_sem, h, h0, natAbs_zero_iff]
theorem sg_add (a b : Int) (h : decide (a < 0) = decide (b < 0)) : sg (decide (a < 0)) (a.natAbs + b.natAbs) = a + b := by
 have h' : (a < 0) ↔ (b < 0) := by simpa using h
 unfold sg
 by_cases h0 : a < 0
 ·rw [decide_eq_true h0, if_pos rfl]; omega
 ·rw [decide_eq_false h0, if_neg (by decide)]; omega
theorem sg_sub (a b : Int) (h : ¬ decide (a < 0) = decide (b < 0)) (hle : b.natAbs ≤ a.natAbs) : sg (decide (a < 0)) (a.natAbs - b.natAbs) = a + b := by
 have h' : ¬ ((a < 0) ↔ (b < 0)) := by intro h2; exact h (by simp [h2])
 unfold sg
 by_cases h0 : a < 0
 ·rw [decide_eq_true h0, if_pos rfl]; omega
 ·rw [decide_eq_false h0, if_neg (by decide)]; omega
theorem sg_mulI (a b : Int) : sg (!(decide (a < 0) == decide (b < 0))) (a.natAbs * b.natAbs) = a * b := by
 have h1 : a.natAbs * b.natAbs = (a * b).natAbs := (Int.natAbs_mul a b).symm
 rw [h1]
 by_cases hz : a * b = 0
 ·rw [hz]; unfold sg; split <;> rfl
 ·have ha : a ≠ 0 := by rintro rfl; simp at hz
  have hb : b ≠ 0 := by rintro rfl; simp at hz
  unfold sg
  by_cases h0 : a < 0
  ·by_cases h2 : b < 0
   ·have := Int.mul_pos_of_neg_of_neg h0 h2
    rw [decide_eq_true h0, decide_eq_true h2, if_neg (by decide)]; omega
   ·have := Int.mul_neg_of_neg_of_pos h0 (show 0 < b by omega)
    rw [decide_eq_true h0, decide_eq_false h2, if_pos (by decide)]; omega
  ·by_cases h2 : b < 0
   ·have := Int.mul_neg_of_pos_of_neg (show 0 < a by omega) h2
    rw [decide_eq_false h0, decide_eq_true h2, if_pos (by decide)]; omega
   ·have := Int.mul_pos (show 0 < a by omega) (show 0 < b by omega)
    rw [decide_eq_false h0, decide_eq_false h2, if_neg (by decide)]; omega
theorem r2_Add (lk : Nat) (H : Heap) (a b : Int) (hla : (q0b a.natAbs).length < 10000000) (hlb : (q0b b.natAbs).length < 10000000) : q0c prog md lk 132 [vI a, vI b] H = some (vI (a + b), H) := by
 refine q0a rfl Tryz.func132 rfl rfl ?_
 have k1 := fun lk H' => r1_Add lk H' a.natAbs b.natAbs (by omega) (by omega)
 have k2 := fun lk H' => r1_Sub lk H' a.natAbs b.natAbs (by omega) (by omega)
 have k3 := fun lk H' => r1_Sub lk H' b.natAbs a.natAbs (by omega) (by omega)
 have k4 := fun lk H' => r1_Compare lk H' a.natAbs b.natAbs
 by_cases h : decide (a < 0) = decide (b < 0)
 ·have hb : (decide (a < 0) == decide (b < 0)) = true := by rw [h]; simp
  simp -dsimp only [go_sem, hb, k1, w2o, sg_add a b h]
 ·have hb : (decide (a < 0) == decide (b < 0)) = false := by
   cases hx : decide (a < 0) <;> cases hy : decide (b < 0) <;> simp_all
  by_cases hc : a.natAbs < b.natAbs
  ·rw [if_pos hc] at k4
   have e := sg_sub b a (fun h2 => h h2.symm) (by omega)
   rw [Int.add_comm] at e
   simp -dsimp only [go_sem, hb, k3, k4, w2o, e]
  ·have f : (0 : Int) ≤ (if a.natAbs < b.natAbs then (-1 : Int) else if a.natAbs = b.natAbs then 0 else 1) := by rw [if_neg hc]; split <;> omega
   have e := sg_sub a b h (by omega)
   simp -dsimp only [go_sem, hb, k2, k4, f, w2o, e]
theorem r2_Mul (lk : Nat) (H : Heap) (a b : Int) (hla : (q0b a.natAbs).length < 10000000) (hlb : (q0b b.natAbs).length < 10000000) : q0c prog md lk 133 [vI a, vI b] H = some (vI (a * b), H) := by
 refine q0a rfl Tryz.func133 rfl rfl ?_
 have k1 := fun lk H' => r1_Mul lk H' a.natAbs b.natAbs (by omega) (by omega)
 simp -dsimp only [go_sem, k1, w2o, sg_mulI]
structure RI where
 neg : Bool
 abs : List UInt8
instance : Enc RI := ⟨fun x => [.bool x.neg, .string (mkS x.abs)], 2, fun _ => rfl⟩
instance : Enc Int := ⟨fun z => [.bool (decide (z < 0)), .string (mkS (q0b z.natAbs))], 2, fun _ => rfl⟩
abbrev vRI (x : RI) : Value := .agg #[.bool x.neg, .string (mkS x.abs)]
def ckI (x : RI) : Int := if x.abs.head? = some 0 ∨ (x.neg = true ∧ x.abs = []) then 1 else if 1024 < x.abs.length then 4 else 0
theorem p_natCheck (lk : Nat) (H : Heap) (l : List UInt8) : q0c prog md lk 220 [.string (mkS l)] H = some (.int .i64 (if l.head? = some 0 then 1 else if 1024 < l.length then 4 else 0), H) := by
 refine q0a rfl Tryz.func220 rfl rfl ?_
 cases l with
 | nil => simp -dsimp only [go_sem, List.length_nil, Int.lt_irrefl, List.head?_nil]
 | cons x r =>
  have h2 : (0 : Int) < (((x :: r : List UInt8).length : Nat) : Int) := by simp
  have h3 := byt_mkS (x :: r) 0 (by simp)
  rw [List.getElem_cons_zero] at h3
  have h4 : (((x.toNat : Nat) : Int) = 0) = ((x :: r : List UInt8).head? = some 0) := by
   rw [List.head?_cons]
   apply propext
   constructor
   ·intro h; congr 1; apply UInt8.toNat_inj.1; simp; omega
   ·intro h; injection h with h; subst h; rfl
  generalize (x :: r : List UInt8) = l at *
  by_cases hz : l.head? = some 0
  ·have h4' := h4.trans (eq_true hz)
   rw [if_pos hz]
   simp -dsimp only [go_sem, eq_true h2, h3, h4']
  ·have h4' := h4.trans (eq_false hz)
   rw [if_neg hz]
   by_cases hl : 1024 < l.length
   ·have f : (1024 < ((l.length : Nat) : Int)) = True := eq_true (by omega)
    simp -dsimp only [go_sem, eq_true h2, h3, h4', f]
    rw [if_pos hl]
   ·have f : (1024 < ((l.length : Nat) : Int)) = False := eq_false (by omega)
    simp -dsimp only [go_sem, eq_true h2, h3, h4', f]
    rw [if_neg hl]
theorem p_intZero (lk : Nat) (H : Heap) : q0c prog md lk 233 [] H = some (.agg #[.bool false, .string (mkS [])], H) := by
 refine q0a rfl Tryz.func233 rfl rfl ?_
 simp -dsimp only [go_sem]
theorem eqRaw (x : RI) : ibin prog .neq 53 (vRI x) (.agg #[.bool false, .string (mkS [])]) = some (.bool (!(x.neg == false && decide (x.abs = [])))) := by
 rw [ibin_nea, sk_I]
 simp only [q8h, w0r, w0t, Option.map_some, Bool.and_true]
theorem p_intCheck (lk : Nat) (H : Heap) (x : RI) : q0c prog md lk 219 [vRI x] H = some (.int .i64 (ckI x), H) := by
 refine q0a rfl Tryz.func219 rfl rfl ?_
 have k1 := fun lk H' => p_natCheck lk H' x.abs
 have k2 := eqRaw x
 unfold vRI at k2
 unfold ckI
 by_cases hz : x.abs.head? = some 0
 ·rw [if_pos hz] at k1
  rw [if_pos (Or.inl hz)]
  simp -dsimp only [go_sem, k1]
 ·rw [if_neg hz] at k1
  by_cases ha : x.abs = []
  ·rw [ha, if_neg (by simp)] at k1
   cases hn : x.neg with
   | true =>
    rw [if_pos (Or.inr ⟨rfl, ha⟩)]
    rw [hn, ha] at k2
    simp -dsimp only [go_sem, k1, p_intZero, ha, hn, k2]
   | false =>
    rw [if_neg (by rintro (h | ⟨h, _⟩); exact hz h; cases h), ha, if_neg (by simp)]
    rw [hn, ha] at k2
    simp -dsimp only [go_sem, k1, p_intZero, ha, hn, k2]
  ·rw [if_neg (by rintro (h | ⟨_, h⟩); exact hz h; exact ha h)]
   have hd : decide (x.abs = []) = false := decide_eq_false ha
   rw [hd, Bool.and_false, Bool.not_false] at k2
   have f : ((if 1024 < x.abs.length then (4 : Int) else 0) = 1) = False := eq_false (by split <;> omega)
   simp -dsimp only [go_sem, k1, p_intZero, hd, k2, f]
def Pr (n : Nat) : Prop := 2 ≤ n ∧ ∀ d, d < n → 2 ≤ d → ¬ n % d = 0
instance (n : Nat) : Decidable (Pr n) := by unfold Pr; infer_instance
theorem pr_of {n d : Nat} (h1 : 1 < n) (h2 : ∀ e, e < d → 2 ≤ e → ¬ n % e = 0) (h3 : n < d * d) : Pr n := by
 refine ⟨h1, fun e he he2 h0 => ?_⟩
 obtain ⟨q, hq⟩ := Nat.dvd_of_mod_eq_zero h0
 by_cases hed : e < d
 ·exact h2 e hed he2 h0
 ·have hq2 : q < d := by
   apply Nat.lt_of_not_le
   intro hc
   have := Nat.mul_le_mul (Nat.le_of_not_lt hed) hc
   omega
  have hq3 : 2 ≤ q := by
   apply Nat.le_of_not_lt
   intro hc
   have : q = 0 ∨ q = 1 := by omega
   rcases this with h | h
   ·rw [h] at hq; omega
   ·rw [h] at hq; omega
  refine h2 _ hq2 hq3 ?_
  conv => lhs; lhs; rw [hq]
  exact Nat.mul_mod_left _ _
theorem r4_IsPrime (lk : Nat) (H : Heap) (n : Nat) (hn : n ≤ 1000000000) : q0c prog md lk 60 [.int .i64 (n : Int)] H = some (.bool (decide (Pr n)), H) := by
 refine q0a rfl Tryz.func60 rfl rfl ?_
 simp -dsimp only [go_sem]
 refine q0h (m := fun d => n + 3 - d) (I := fun d σ H' => 2 ≤ d ∧ d ≤ n + 2 ∧ (∀ e, e < d → 2 ≤ e → ¬ n % e = 0) ∧ σ 0 = .int .i64 (n : Int) ∧ σ 3 = .int .i64 (d : Int)) 2 ⟨Nat.le_refl _, by omega, fun e h1 h2 => by omega, rfl, rfl⟩ ?_
 rintro d σ H' ⟨h1, h2, h3, h0, h4⟩
 have hdd : d * d ≤ 1000000002 * 1000000002 := Nat.mul_le_mul (by omega) (by omega)
 have e1 : IntKind.i64.wrap ((d : Int) * (d : Int)) = ((d * d : Nat) : Int) := by
  rw [← Int.natCast_mul]; exact w64 (by omega) (by omega)
 by_cases hle : d * d ≤ n
 ·have f1 : (((d * d : Nat) : Int) ≤ (n : Int)) = True := eq_true (by omega)
  have f2 : ((d : Int) = 0) = False := eq_false (by omega)
  have e2 : Int.tmod (n : Int) (d : Int) = ((n % d : Nat) : Int) := rfl
  by_cases hz : n % d = 0
  ·have f3 : (((n % d : Nat) : Int) = 0) = True := eq_true (by omega)
   have hnp : decide (Pr n) = false := decide_eq_false (fun hp => hp.2 d (by
    have : 2 * d ≤ d * d := Nat.mul_le_mul_right _ h1
    omega) h1 hz)
   simp -dsimp only [go_sem, h0, h4, e1, f1, f2, e2, f3, hnp]
   omega
  ·have f3 : (((n % d : Nat) : Int) = 0) = False := eq_false (by omega)
   have e3 : IntKind.i64.wrap ((d : Int) + 1) = ((d + 1 : Nat) : Int) := by rw [w64 (by omega) (by omega)]; omega
   simp -dsimp only [go_sem, h0, h4, e1, f1, f2, e2, f3, e3]
   have hdn : d ≤ n := by
    have : 2 * d ≤ d * d := Nat.mul_le_mul_right _ h1
    omega
   refine ⟨by omega, next (d + 1) (by show n + 3 - (d + 1) < n + 3 - d; omega) ⟨by omega, by omega, fun e he he2 => ?_, h0, rfl⟩⟩
   by_cases hed : e = d
   ·subst hed; exact hz
   ·exact h3 e (by omega) he2
 ·have f1 : (((d * d : Nat) : Int) ≤ (n : Int)) = False := eq_false (by omega)
  have e4 : decide (1 < (n : Int)) = decide (Pr n) := by
   apply decide_eq_decide.2
   constructor
   ·intro h; exact pr_of (by omega) h3 (by omega)
   ·intro h; have := h.1; omega
  simp -dsimp only [go_sem, h0, h4, e1, f1, e4]
structure PP where
 p : Nat
 e : Nat
instance : Enc PP := ⟨fun x => [.int .i64 (x.p : Int), .int .i64 (x.e : Int)], 2, fun _ => rfl⟩
def q7o : List PP → Nat
 | [] => 1
 | x :: r => x.p ^ x.e * q7o r
theorem ppVal_app (l : List PP) (x : PP) : q7o (l ++ [x]) = q7o l * x.p ^ x.e := by
 induction l with
 | nil => simp [q7o]
 | cons y r ih => simp only [List.cons_append, q7o, ih, Nat.mul_assoc]
structure Fac (n d m : Nat) (l : List PP) : Prop where
 pos : 1 ≤ m
 eq : n = m * q7o l
 no : ∀ e, e < d → 2 ≤ e → ¬ m % e = 0
 good : ∀ x ∈ l, 1 ≤ x.e ∧ 2 ≤ x.p ∧ (x.p = 2 ∨ x.p * x.p ≤ n)
theorem ppVal_pos {l : List PP} (h : ∀ x ∈ l, 1 ≤ x.e ∧ 2 ≤ x.p) : 1 ≤ q7o l ∧ (l ≠ [] → 2 ≤ q7o l) ∧ (∀ x ∈ l, x.p ∣ q7o l) := by
 induction l with
 | nil => exact ⟨Nat.le_refl _, fun h => absurd rfl h, fun x hx => by simp at hx⟩
 | cons y r ih =>
  obtain ⟨h1, h2, h3⟩ := ih (fun x hx => h x (List.mem_cons_of_mem _ hx))
  obtain ⟨g1, g2⟩ := h y List.mem_cons_self
  have hd : y.p ∣ y.p ^ y.e := Nat.dvd_of_mod_eq_zero (by
   obtain ⟨k, hk⟩ : ∃ k, y.e = k + 1 := ⟨y.e - 1, by omega⟩
   rw [hk, Nat.pow_succ]; exact Nat.mul_mod_left _ _)
  have hp : 2 ≤ y.p ^ y.e := Nat.le_trans g2 (Nat.le_of_dvd (Nat.pow_pos (by omega)) hd)
  refine ⟨Nat.mul_pos (by omega) h1, fun _ => ?_, fun x hx => ?_⟩
  ·have := Nat.mul_le_mul hp h1
   simp only [q7o]; omega
  ·rcases List.mem_cons.1 hx with rfl | hx
   ·exact Nat.dvd_trans hd (Nat.dvd_mul_right _ _)
   ·exact Nat.dvd_trans (h3 x hx) (Nat.dvd_mul_left _ _)
theorem Fac.try {n d m k m' : Nat} {l : List PP} (h : Fac n d m l) (hd : 2 ≤ d) (hm : m = m' * d ^ k) (hnd : ¬ m' % d = 0) (hsq : d = 2 ∨ d * d ≤ n) : Fac n (d + 1) m' (if 0 < k then l ++ [⟨d, k⟩] else l) := by
 have hpos := h.pos
 have hm0 : 1 ≤ m' := by
  apply Nat.pos_of_ne_zero
  rintro rfl
  simp at hnd
 refine ⟨hm0, ?_, fun e he he2 h0 => ?_, ?_⟩
 ·rw [h.eq, hm]
  by_cases hk : 0 < k
  ·rw [if_pos hk, ppVal_app]
   simp only []
   rw [Nat.mul_assoc, Nat.mul_comm (d ^ k)]
  ·rw [if_neg hk, show k = 0 by omega]; simp
 ·by_cases hed : e = d
  ·subst hed; exact hnd h0
  ·refine h.no e (by omega) he2 ?_
   rw [hm, Nat.mul_mod, h0]; simp
 ·intro x hx
  by_cases hk : 0 < k
  ·rw [if_pos hk] at hx
   rcases List.mem_append.1 hx with hx | hx
   ·exact h.good x hx
   ·simp only [List.mem_singleton] at hx
    subst hx
    exact ⟨hk, hd, hsq⟩
  ·rw [if_neg hk] at hx
   exact h.good x hx
theorem Fac.even {n d m : Nat} {l : List PP} (h : Fac n d m l) (hd : 3 ≤ d) (he : d % 2 = 0) : Fac n (d + 1) m l := by
 refine ⟨h.pos, h.eq, fun e hed he2 h0 => ?_, h.good⟩
 by_cases heq : e = d
 ·subst heq
  refine h.no 2 (by omega) (by omega) ?_
  have h1 : 2 ∣ e := Nat.dvd_of_mod_eq_zero he
  have h2 : e ∣ m := Nat.dvd_of_mod_eq_zero h0
  exact Nat.mod_eq_zero_of_dvd (Nat.dvd_trans h1 h2)
 ·exact h.no e (by omega) he2 h0
theorem Fac.fin {n d m : Nat} {l : List PP} (h : Fac n d m l) (hn : 2 ≤ n) (hdd : m < d * d) (l' : List PP) (hl : l' = if 1 < m then l ++ [⟨m, 1⟩] else l) :
  (∃ x, l' = [x] ∧ x.e = 1) ↔ Pr n := by
 obtain ⟨g1, g2, g3⟩ := ppVal_pos (fun x hx => ⟨(h.good x hx).1, (h.good x hx).2.1⟩)
 constructor
 ·rintro ⟨x, hx, hxe⟩
  by_cases hm : 1 < m
  ·rw [if_pos hm, hx] at hl
   have hl0 : l = [] := by
    cases l with
    | nil => rfl
    | cons y r => simp at hl
   subst hl0
   have := h.eq
   simp only [q7o, Nat.mul_one] at this
   rw [this]
   exact pr_of hm h.no hdd
  ·rw [if_neg hm, hx] at hl
   have hm1 : m = 1 := by have := h.pos; omega
   have hn' := h.eq
   rw [← hl, hm1] at hn'
   simp only [q7o, hxe, Nat.pow_one, Nat.mul_one, Nat.one_mul] at hn'
   obtain ⟨_, h2, h3⟩ := h.good x (by rw [← hl]; simp)
   rcases h3 with h3 | h3
   ·rw [hn', h3]
    decide
   ·exfalso
    rw [← hn'] at h3 h2
    have : 2 * n ≤ n * n := Nat.mul_le_mul_right _ h2
    omega
 ·intro hp
  by_cases hl0 : l = []
  ·subst hl0
   have hnm : n = m := by have := h.eq; simpa [q7o] using this
   have hm : 1 < m := by omega
   rw [if_pos hm, List.nil_append] at hl
   exact ⟨⟨m, 1⟩, hl, rfl⟩
  ·obtain ⟨x, hx⟩ := List.exists_mem_of_ne_nil l hl0
   have hxn : ∀ x ∈ l, x.p = n := by
    intro x hx
    have hdv : x.p ∣ n := by rw [h.eq]; exact Nat.dvd_trans (g3 x hx) (Nat.dvd_mul_left _ _)
    apply Decidable.byContradiction
    intro hne
    have hle := Nat.le_of_dvd (by omega) hdv
    exact hp.2 x.p (by omega) (h.good x hx).2.1 (Nat.mod_eq_zero_of_dvd hdv)
   have hn2 : n = 2 := by
    have h1 := hxn x hx
    obtain ⟨_, h2, h3⟩ := h.good x hx
    rcases h3 with h3 | h3
    ·omega
    ·rw [h1] at h3
     have : 2 * n ≤ n * n := Nat.mul_le_mul_right _ hn
     omega
   have hv := h.eq
   have hpv := g2 hl0
   have hm1 : m = 1 := by
    have : m * 2 ≤ m * q7o l := Nat.mul_le_mul_left _ hpv
    have := h.pos
    omega
   rw [if_neg (by omega)] at hl
   rw [hm1, Nat.one_mul] at hv
   cases l with
   | nil => exact absurd rfl hl0
   | cons y r =>
    have hy := hxn y List.mem_cons_self
    have hye := (h.good y List.mem_cons_self).1
    simp only [q7o] at hv
    have hr : r = [] := by
     cases r with
     | nil => rfl
     | cons z t =>
      exfalso
      obtain ⟨k1, k2, _⟩ := ppVal_pos (l := z :: t) (fun x hx => ⟨(h.good x (List.mem_cons_of_mem _ hx)).1, (h.good x (List.mem_cons_of_mem _ hx)).2.1⟩)
      have k3 := k2 (by simp)
      have k4 : y.p ≤ y.p ^ y.e := Nat.le_of_dvd (Nat.pow_pos (by omega)) (Nat.dvd_of_mod_eq_zero (by
       obtain ⟨k, hk⟩ : ∃ k, y.e = k + 1 := ⟨y.e - 1, by omega⟩
       rw [hk, Nat.pow_succ]; exact Nat.mul_mod_left _ _))
      have := Nat.mul_le_mul k4 k3
      omega
    subst hr
    refine ⟨y, hl, ?_⟩
    simp only [q7o, Nat.mul_one] at hv
    rw [hy, hn2] at hv
    apply Decidable.byContradiction
    intro hne
    have : 2 ^ 2 ≤ 2 ^ y.e := Nat.pow_le_pow_right (by decide) (by omega)
    omega
theorem q0x {H : Heap} {b : Nat} {B : Blk} (hb : b < H.length) (hd : B.dead = false) : q0e (H.set b B) b = some B := by
 unfold q0e
 rw [List.getElem?_set_self hb]
 simp [hd]
theorem q0t {H : Heap} {b c : Nat} {B : Blk} (h : b ≠ c) : q0e (H.set b B) c = q0e H c := by
 unfold q0e; rw [List.getElem?_set_ne h]
structure FS (H0 H : Heap) (m : Nat) (l : List PP) (a : Option Addr) : Prop where
 ext : Ext H0 H
 p1 : q0e H H0.length = some ⟨[.int .i64 (m : Int)], 1, false⟩
 p2 : q0e H (H0.length + 1) = some ⟨[.slice a l.length l.length], 1, false⟩
 own : Own H0.length H a l
theorem FS.ne {H0 H : Heap} {m : Nat} {l : List PP} {a : Option Addr} (h : FS H0 H m l a) : ∀ c o e, a = some ⟨c, o, e⟩ → c ≠ H0.length ∧ c ≠ H0.length + 1 := by
 intro c o e ha
 rcases h.own with ⟨h1, _⟩ | ⟨b, h1, h2, h3⟩
 ·rw [h1] at ha; cases ha
 ·rw [h1] at ha; cases ha
  refine ⟨?_, ?_⟩
  ·rintro rfl
   have := h.p1
   rw [h3] at this
   injection this with this
   have h4 : (lblk l).sz = 1 := by rw [this]
   cases h4
  ·rintro rfl
   have := h.p2
   rw [h3] at this
   injection this with this
   have h4 : (lblk l).sz = 1 := by rw [this]
   cases h4
theorem Own.set {α : Type} [Enc α] {lo b : Nat} {H : Heap} {a : Option Addr} {l : List α} {B : Blk} (h : Own lo H a l) (hne : ∀ c o e, a = some ⟨c, o, e⟩ → c ≠ b) : Own lo (H.set b B) a l := by
 rcases h with h | ⟨c, h1, h2, h3⟩
 ·exact .inl h
 ·exact .inr ⟨c, h1, h2, by rw [q0t (fun h => hne c 0 none h1 h.symm)]; exact h3⟩
theorem FS.set1 {H0 H : Heap} {m : Nat} {l : List PP} {a : Option Addr} (h : FS H0 H m l a) (m' : Nat) : FS H0 (H.set H0.length ⟨[.int .i64 (m' : Int)], 1, false⟩) m' l a :=
 ⟨h.ext.set (Nat.le_refl _) _, q0x (q0w h.p1) rfl, by rw [q0t (by omega)]; exact h.p2, h.own.set (fun c o e ha => (h.ne c o e ha).1)⟩
theorem p_try (H0 H : Heap) (m d : Nat) (l : List PP) (a : Option Addr) (h : FS H0 H m l a) (hd : 2 ≤ d) (hm : 1 ≤ m) (hm2 : m ≤ 1000000000) (hd2 : d ≤ 1000000000) (hl : l.length ≤ 1000000) :
  ∃ H1, q0c prog md H0.length 214 [.int .i64 (d : Int), .pointer (some ⟨H0.length, 0, none⟩), .pointer (some ⟨H0.length + 1, 0, none⟩)] H = some (.tuple #[], H1) ∧
   ∃ m' k a1, FS H0 H1 m' (if 0 < k then l ++ [⟨d, k⟩] else l) a1 ∧ m = m' * d ^ k ∧ ¬ m' % d = 0 := by
 have key := pcall_raw (P := prog) (md := md) (lk := H0.length) (g := 214) (fn := Tryz.f214) (args := [.int .i64 (d : Int), .pointer (some ⟨H0.length, 0, none⟩), .pointer (some ⟨H0.length + 1, 0, none⟩)]) (H := H) (by decide) (by decide) (by decide) Tryz.func214 rfl
  (R := fun v H1 => v = .tuple #[] ∧ ∃ m' k a1, FS H0 H1 m' (if 0 < k then l ++ [⟨d, k⟩] else l) a1 ∧ m = m' * d ^ k ∧ ¬ m' % d = 0) ?_
 ·obtain ⟨v, H1, k1, rfl, k2⟩ := key
  exact ⟨H1, by rw [q7f Tryz.func214 rfl]; exact k1, k2⟩
 simp -dsimp only [go_sem]
 refine q0h (m := fun (s : Nat × Nat) => s.1) (I := fun s σ H' => FS H0 H' s.1 l a ∧ m = s.1 * d ^ s.2 ∧ σ 0 = .int .i64 (d : Int) ∧ σ 1 = .pointer (some ⟨H0.length, 0, none⟩) ∧ σ 2 = .pointer (some ⟨H0.length + 1, 0, none⟩) ∧ σ 4 = .int .i64 (s.2 : Int)) (m, 0) ?_ ?_
 ·exact ⟨h, by simp, rfl, rfl, rfl, rfl⟩
 ·rintro ⟨x, k⟩ σ H' ⟨hF, he, h0, h1, h2, h4⟩
  simp only [] at hF he h4
  have hx1 : 1 ≤ x := by
   apply Nat.pos_of_ne_zero
   rintro rfl
   simp at he; omega
  have hkm : k < m := by
   have h5 : k < 2 ^ k := Nat.lt_two_pow_self
   have h6 : 2 ^ k ≤ d ^ k := Nat.pow_le_pow_left hd k
   have h7 : 1 * d ^ k ≤ x * d ^ k := Nat.mul_le_mul_right _ hx1
   omega
  have hxm : x ≤ m := by
   have h7 : x * 1 ≤ x * d ^ k := Nat.mul_le_mul_left _ (Nat.pow_pos (by omega))
   omega
  have e1 : Int.tmod (x : Int) (d : Int) = ((x % d : Nat) : Int) := rfl
  have f1 : ((d : Int) = 0) = False := eq_false (by omega)
  have hp1 := hF.p1
  by_cases hz : x % d = 0
  ·have f2 : (((x % d : Nat) : Int) = 0) = True := eq_true (by omega)
   have e2 : IntKind.i64.wrap (Int.tdiv (x : Int) (d : Int)) = ((x / d : Nat) : Int) := by
    have h9 : Int.tdiv (x : Int) (d : Int) = ((x / d : Nat) : Int) := rfl
    have := Nat.div_le_self x d
    rw [h9]; generalize x / d = w at *; exact w64 (by omega) (by omega)
   have e3 : IntKind.i64.wrap ((k : Int) + 1) = ((k + 1 : Nat) : Int) := by rw [w64 (by omega) (by omega)]; omega
   simp -dsimp only [go_sem, h0, h1, h2, h4, hp1, e1, f1, f2, e2, e3]
   have hxd : x / d < x := Nat.div_lt_self hx1 hd
   refine ⟨by omega, by omega, next (x / d, k + 1) hxd ⟨hF.set1 _, ?_, h0, h1, h2, rfl⟩⟩
   simp only []
   rw [he, Nat.pow_succ, Nat.mul_comm (d ^ k), ← Nat.mul_assoc, Nat.div_mul_cancel (Nat.dvd_of_mod_eq_zero hz)]
  ·have f2 : (((x % d : Nat) : Int) = 0) = False := eq_false (by omega)
   by_cases hk : 0 < k
   ·have f3 : (0 < (k : Int)) = True := eq_true (by omega)
    have hap := fun t t2 => ap_own (P := prog) (lk := H0.length) (t := t) (t2 := t2) hF.own (Nat.le_refl _) rfl [.int .i64 (d : Int), .int .i64 (k : Int)] 2 rfl rfl
    have hp2 := hF.p2
    have hp2' := q0u (N := [(⟨[.int .i64 (d : Int), .int .i64 (k : Int)], 2, false⟩ : Blk)]) hp2
    have hk1 := q4f (a := a) (q0u (N := [(⟨[.int .i64 (d : Int), .int .i64 (k : Int)], 2, false⟩ : Blk)]) hp1) (fun c o e ha => (hF.ne c o e ha).1)
    have hk2 := q4f (a := a) hp2' (fun c o e ha => (hF.ne c o e ha).2)
    have hk1' := q0u (N := [(⟨q0g l ++ [.int .i64 (d : Int), .int .i64 (k : Int)], 2, false⟩ : Blk)]) hk1
    have hk2' := q0u (N := [(⟨q0g l ++ [.int .i64 (d : Int), .int .i64 (k : Int)], 2, false⟩ : Blk)]) hk2
    have hO2 := q9p (lo := H0.length) (H := H') (a := a) (l := l) (⟨d, k⟩ : PP) [⟨[.int .i64 (d : Int), .int .i64 (k : Int)], 2, false⟩] (by have := hF.ext.le; simp; omega)
    have hE2 : Ext H0 (kill (H' ++ [⟨[.int .i64 (d : Int), .int .i64 (k : Int)], 2, false⟩]) a) := (hF.own.more _).kill (hF.ext.more _)
    have hlt := q0w hk2'
    simp -dsimp only [go_sem, h0, h1, h2, h4, hp1, e1, f1, f2, f3, hp2, reps, hap, hk2']
    refine ⟨by omega, by omega, x, k, some ⟨H'.length + 1, 0, none⟩, ?_, he, hz⟩
    rw [if_pos hk]
    refine ⟨(hE2.more _).set (by omega) _, ?_, ?_, ?_⟩
    ·rw [q0t (by omega)]; exact hk1'
    ·rw [q0x hlt rfl]; simp
    ·refine Own.set hO2 ?_
     intro c o e hc
     cases hc
     have := q0w hp2
     simp; omega
   ·have f3 : (0 < (k : Int)) = False := eq_false (by omega)
    simp -dsimp only [go_sem, h0, h1, h2, h4, hp1, e1, f1, f2, f3]
    exact ⟨by omega, x, k, a, by rw [if_neg hk]; exact hF, he, hz⟩
section
variable {P : Program} {md : Md} {lk : Nat} {σ : Env} {H : Heap} {K : Env → Heap → Prop} {draw : Bool} {ops : Array Oper} {d : Option Nat} {ty : TypeId} {pos : String} {af : Array Edge} {r : List Oper}
@[go_sem ↓] theorem ro_makeFunc (f : FuncId) (cap : Array Operand) : ROps P md lk draw ops (⟨d, .makeFunc (.func f) #[] cap, ty, pos, af, none⟩ :: r) σ H K = ((cap.toList.map (ev σ)).all q9q = true ∧ ROps P md lk draw ops r (put σ d (.func (.func f) #[] (cap.toList.map (ev σ)).toArray)) H K) := by
 rw [q1p (x := if (cap.toList.map (ev σ)).all q9q = true then some (.func (.func f) #[] (cap.toList.map (ev σ)).toArray, H) else none) (fun _ => by simp [iop]), obind_ite]; rfl
end
theorem compV_own {α : Type} [Enc α] {n0 : Nat} {H : Heap} {a : Option Addr} {l : List α} (h : Own n0 H a l) (hk : (q0g l).all kok0 = true) :
  ∃ a' N, q4i H n0 (.slice a l.length l.length) = some (.slice a' l.length l.length, N) ∧ ∀ H0 : Heap, H0.length = n0 → Own n0 (H0 ++ N) a' l := by
 rcases h with ⟨rfl, rfl⟩ | ⟨b, rfl, h2, h3⟩
 ·exact ⟨none, [], rfl, fun H0 _ => .inl ⟨rfl, rfl⟩⟩
 ·have e : ((lblk l).c.drop 0).take (l.length * (lblk l).sz) = q0g l := by
   rw [List.drop_zero, q6s, w2x, List.take_of_length_le (by rw [q1l]; exact Nat.le_refl _)]
  refine ⟨some ⟨n0, 0, none⟩, [lblk l], ?_, fun H0 h0 => ?_⟩
  ·rw [compV_new h2 h3 (by rw [q6s, w2x, q1l]; omega) (by rw [e]; exact hk), e]; rfl
  ·subst h0
   exact .inr ⟨_, rfl, Nat.le_refl _, q0j _ _⟩
theorem last_try {m m' k : Nat} (hm : 1 < m) (h : m = m' * m ^ k) (hn : ¬ m' % m = 0) : k = 1 := by
 have h1 : 1 ≤ m' := by
  apply Nat.pos_of_ne_zero
  rintro rfl
  simp at hn
 by_cases h0 : k = 0
 ·subst h0
  rw [Nat.pow_zero, Nat.mul_one] at h
  rw [← h, Nat.mod_self] at hn; exact absurd rfl hn
 ·apply Decidable.byContradiction
  intro hk
  have h2 : m ^ 2 ≤ m ^ k := Nat.pow_le_pow_right (by omega) (by omega)
  have h3 : 1 * m ^ k ≤ m' * m ^ k := Nat.mul_le_mul_right _ h1
  have h4 : m ^ 2 = m * m := by rw [Nat.pow_succ, Nat.pow_one]
  have h5 : 2 * m ≤ m * m := Nat.mul_le_mul_right _ hm
  omega
theorem p_factor (lk : Nat) (H : Heap) (n : Nat) (hn : 2 ≤ n) (hn2 : n ≤ 100000) :
  ∃ v N, q0c prog md lk 165 [.int .i64 (n : Int)] H = some (v, H ++ N) ∧ ∃ a l, v = .slice a l.length l.length ∧ SL (H ++ N) a l ∧ ((∃ x : PP, l = [x] ∧ x.e = 1) ↔ Pr n) := by
 refine q3m rfl Tryz.func165 rfl ?_
 have hF0 : FS H (H ++ [⟨[.int .i64 (n : Int)], 1, false⟩, ⟨[.slice none 0 0], 1, false⟩]) n [] none :=
  ⟨Ext.app _ _, by simp -dsimp only [go_sem], by simp -dsimp only [go_sem, List.length_nil], Own.nil⟩
 obtain ⟨H1, c1, m1, k1, a1, F1, e1, n1⟩ := p_try H _ n 2 [] none hF0 (by omega) (by omega) (by omega) (by omega) (by simp)
 have G0 : Fac n 2 n [] := ⟨by omega, by simp [q7o], fun e h1 h2 => by omega, fun x hx => by simp at hx⟩
 have G1 := G0.try (Nat.le_refl 2) e1 n1 (Or.inl rfl)
 have hl1 : (if 0 < k1 then ([] : List PP) ++ [⟨2, k1⟩] else []).length ≤ 3 := by split <;> simp
 generalize (if 0 < k1 then ([] : List PP) ++ [⟨2, k1⟩] else []) = l1 at *
 rw [show (((2 : Nat)) : Int) = 2 from rfl] at c1
 simp -dsimp only [go_sem, c1, q9q, List.all_cons, List.all_nil]
 clear c1 e1 n1 G0 hF0
 refine q0h (m := fun (s : Nat × Nat × List PP × Option Addr) => n + 3 - s.1) (I := fun s σ H' => 3 ≤ s.1 ∧ s.1 ≤ n + 2 ∧ s.1 % 2 = 1 ∧ Fac n s.1 s.2.1 s.2.2.1 ∧ FS H H' s.2.1 s.2.2.1 s.2.2.2 ∧ s.2.2.1.length ≤ s.1 ∧ σ 1 = .pointer (some ⟨H.length, 0, none⟩) ∧ σ 3 = .pointer (some ⟨H.length + 1, 0, none⟩) ∧ σ 4 = .func (.func 214) #[] #[.pointer (some ⟨H.length, 0, none⟩), .pointer (some ⟨H.length + 1, 0, none⟩)] ∧ σ 5 = .int .i64 (s.1 : Int)) (3, m1, l1, a1) ?_ ?_
 ·exact ⟨Nat.le_refl _, by simp only []; omega, by simp only [], G1, F1, hl1, rfl, rfl, rfl, rfl⟩
 ·rintro ⟨d, m, l, a⟩ σ H' ⟨h1, h2, h3, hG, hF, hl, g1, g3, g4, g5⟩
  simp only [] at h1 h2 h3 hG hF hl g5
  have hmn : m ≤ n := by
   have := hG.eq
   obtain ⟨q, _⟩ := ppVal_pos (fun x hx => ⟨(hG.good x hx).1, (hG.good x hx).2.1⟩)
   have : m * 1 ≤ m * q7o l := Nat.mul_le_mul_left _ q
   omega
  have hm1 := hG.pos
  have hdd : d * d ≤ 100002 * 100002 := Nat.mul_le_mul (by omega) (by omega)
  have e1 : IntKind.i64.wrap ((d : Int) * (d : Int)) = ((d * d : Nat) : Int) := by
   rw [← Int.natCast_mul]; exact w64 (by omega) (by omega)
  have hp1 := hF.p1
  by_cases hle : d * d ≤ m
  ·have f1 : (((d * d : Nat) : Int) ≤ (m : Int)) = True := eq_true (by omega)
   have hdn : d < n := by
    have : 3 * d ≤ d * d := Nat.mul_le_mul_right _ h1
    omega
   obtain ⟨H2, c2, m2, k2, a2, F2, e2, n2⟩ := p_try H H' m d l a hF (by omega) hm1 (by omega) (by omega) (by omega)
   have G2 := hG.try (by omega) e2 n2 (Or.inr (by omega))
   have G3 := G2.even (by omega) (by omega)
   have hl2 : (if 0 < k2 then l ++ [⟨d, k2⟩] else l).length ≤ d + 2 := by
    split
    ·rw [List.length_append, List.length_singleton]; omega
    ·omega
   have e3 : IntKind.i64.wrap ((d : Int) + 2) = ((d + 2 : Nat) : Int) := by rw [w64 (by omega) (by omega)]; omega
   simp -dsimp only [go_sem, g1, g3, g4, g5, e1, hp1, f1, c2, e3]
   exact next (d + 2, m2, _, a2) (by show n + 3 - (d + 2) < n + 3 - d; omega) ⟨by simp only []; omega, by simp only []; omega, by simp only []; omega, G3, F2, hl2, g1, g3, g4, rfl⟩
  ·have f1 : (((d * d : Nat) : Int) ≤ (m : Int)) = False := eq_false (by omega)
   by_cases hm : 1 < m
   ·have f2 : (1 < (m : Int)) = True := eq_true (by omega)
    obtain ⟨H2, c2, m2, k2, a2, F2, e2, n2⟩ := p_try H H' m m l a hF hm hm1 (by omega) (by omega) (by omega)
    have hk := last_try hm e2 n2
    subst hk
    rw [if_pos (by omega)] at F2
    have hfin := hG.fin hn (by omega) _ rfl
    rw [if_pos hm] at hfin
    have hp2 := F2.p2
    obtain ⟨a', N, v1, v2⟩ := compV_own F2.own (by
     have : ∀ l : List PP, (q0g l).all kok0 = true := fun l => by
      induction l with
      | nil => rfl
      | cons x r ih => rw [q1i, List.all_append, ih]; rfl
     exact this _)
    simp -dsimp only [go_sem, g1, g3, g4, g5, e1, hp1, f1, f2, c2, hp2, v1]
    exact ⟨_, _, rfl, a', _, rfl, (v2 H rfl).sl, hfin⟩
   ·have f2 : (1 < (m : Int)) = False := eq_false (by omega)
    have hfin := hG.fin hn (by omega) _ rfl
    rw [if_neg hm] at hfin
    have hp2 := hF.p2
    obtain ⟨a', N, v1, v2⟩ := compV_own hF.own (by
     have : ∀ l : List PP, (q0g l).all kok0 = true := fun l => by
      induction l with
      | nil => rfl
      | cons x r ih => rw [q1i, List.all_append, ih]; rfl
     exact this _)
    simp -dsimp only [go_sem, g1, g3, g4, g5, e1, hp1, f1, f2, hp2, v1]
    exact ⟨_, _, rfl, a', _, rfl, (v2 H rfl).sl, hfin⟩
theorem isub_get {c l : List Value} {o n : Nat} (h : isub c o n = some l) (j : Nat) (hj : j < n) : c[o + j]? = l[j]? := by
 unfold isub at h
 split at h
 ·injection h with h
  rw [← h, List.getElem?_take_of_lt hj, List.getElem?_drop]
 ·cases h
theorem p_resPrime (lk : Nat) (H : Heap) (n : Nat) (hn : 2 ≤ n) (hn2 : n ≤ 100000) : q0c prog md lk 108 [.int .i64 (n : Int)] H = some (.bool (decide (Pr n)), H) := by
 refine q0a rfl Tryz.func108 rfl rfl ?_
 obtain ⟨v, N, k1, a, l, rfl, hs, hp⟩ := p_factor H.length H n hn hn2
 by_cases h1 : l.length = 1
 ·obtain ⟨x, rfl⟩ := List.length_eq_one_iff.1 h1
  obtain ⟨b, o, B, rfl, hB, hz, hg⟩ := hs.get 0 (by simp)
  have hg0 : B.c[o + 1]? = some (.int .i64 (x.e : Int)) := by
   rw [Nat.zero_mul, Nat.add_zero] at hg
   exact isub_get hg 1 (show 1 < 2 by omega)
  have e : decide ((x.e : Int) = 1) = decide (Pr n) := by
   apply decide_eq_decide.2
   rw [← hp]
   constructor
   ·intro h; exact ⟨x, rfl, by omega⟩
   ·rintro ⟨y, hy, he⟩
    simp only [List.cons.injEq, and_true] at hy
    subst hy; omega
  simp -dsimp only [go_sem, k1, hB, hg0, e]
 ·have f1 : (((l.length : Nat) : Int) = 1) = False := eq_false (by omega)
  have hnp : decide (Pr n) = false := decide_eq_false (fun h => by
   obtain ⟨x, hx, _⟩ := hp.2 h
   rw [hx] at h1; simp at h1)
  rw [hnp]
  simp -dsimp only [go_sem, k1, f1]
theorem p_bad1 (lk : Nat) (H : Heap) (n : Int) : q0c prog md lk 164 [.int .i64 n] H = some (.bool (decide (n < 1 ∨ 2147483647 < n)), H) := by
 refine q0a rfl Tryz.func164 rfl rfl ?_
 by_cases h1 : n < 1
 ·rw [decide_eq_true (Or.inl h1)]
  simp -dsimp only [go_sem, h1]
 ·have e : decide (n < 1 ∨ 2147483647 < n) = decide (2147483647 < n) := decide_eq_decide.2 ⟨fun h => h.resolve_left h1, Or.inr⟩
  rw [e]
  simp -dsimp only [go_sem, h1]
theorem p_indexBad (lk : Nat) (H : Heap) (n : Int) (b : Nat) (hb : q0e H b = some ⟨[.int .i64 n], 1, false⟩) : q0c prog md lk 198 [.slice (some ⟨b, 0, none⟩) 1 1, .func (.func 164) #[] #[]] H = some (.int .i64 (if n < 1 ∨ 2147483647 < n then 0 else -1), H) := by
 refine q0a rfl Tryz.func198 rfl rfl ?_
 have k1 := fun lk H' => p_bad1 lk H' n
 simp -dsimp only [go_sem]
 refine q0h (m := fun i => 1 - i) (I := fun i σ H' => i ≤ 1 ∧ H' = H ∧ (i = 1 → ¬ (n < 1 ∨ 2147483647 < n)) ∧ σ 0 = .slice (some ⟨b, 0, none⟩) 1 1 ∧ σ 1 = .func (.func 164) #[] #[] ∧ σ 7 = .int .i64 1 ∧ σ 8 = .int .i64 (i : Int)) 0 ⟨by omega, rfl, fun h => by omega, rfl, rfl, rfl, rfl⟩ ?_
 rintro i σ H' ⟨h1, rfl, h2, h0, g1, h7, h8⟩
 by_cases hi : i = 0
 ·subst hi
  simp only [Int.natCast_zero] at h8
  by_cases hc : n < 1 ∨ 2147483647 < n
  ·rw [decide_eq_true hc] at k1
   simp -dsimp only [go_sem, h0, g1, h7, h8, hb, k1]
   rw [if_pos hc]
  ·rw [decide_eq_false hc] at k1
   have e : IntKind.i64.wrap (0 + 1) = 1 := rfl
   simp -dsimp only [go_sem, h0, g1, h7, h8, hb, k1, e]
   exact next 1 (by show 1 - 1 < 1 - 0; omega) ⟨Nat.le_refl _, rfl, fun _ => hc, h0, g1, h7, rfl⟩
 ·have : i = 1 := by omega
  subst this
  simp only [Int.natCast_one] at h8
  simp -dsimp only [go_sem, h0, g1, h7, h8, Int.lt_irrefl]
  rw [if_neg (h2 rfl)]
theorem p_bad (lk : Nat) (H : Heap) (n : Int) (b : Nat) (hb : q0e H b = some ⟨[.int .i64 n], 1, false⟩) : q0c prog md lk 107 [.slice (some ⟨b, 0, none⟩) 1 1] H = some (.bool (decide (n < 1 ∨ 2147483647 < n)), H) := by
 refine q0a rfl Tryz.func107 rfl rfl ?_
 have k2 : ∀ lk, q0c prog md lk 143 [.slice (some ⟨b, 0, none⟩) 1 1, .func (.func 164) #[] #[]] H = some (.bool (decide (n < 1 ∨ 2147483647 < n)), H) := by
  intro lk
  refine q0a rfl Tryz.func143 rfl rfl ?_
  have k1 := fun lk => p_indexBad lk H n b hb
  by_cases hc : n < 1 ∨ 2147483647 < n
  ·rw [if_pos hc] at k1
   rw [decide_eq_true hc]
   simp -dsimp only [go_sem, k1]
  ·rw [if_neg hc] at k1
   rw [decide_eq_false hc]
   simp -dsimp only [go_sem, k1]
 simp -dsimp only [go_sem, k2]
theorem p_resIsPrime (lk : Nat) (H : Heap) (n : Nat) (hn : 2 ≤ n) (hn2 : n ≤ 100000) : q0c prog md lk 106 [.int .i64 (n : Int)] H = some (.tuple #[.bool (decide (Pr n)), .int .i64 0], H) := by
 refine q0a rfl Tryz.func106 rfl rfl ?_
 have k1 := fun lk => p_bad lk (H ++ [⟨[.int .i64 (n : Int)], 1, false⟩]) n H.length (q0j _ _)
 have hc : ¬ ((n : Int) < 1 ∨ 2147483647 < (n : Int)) := by omega
 rw [decide_eq_false hc] at k1
 have k2 := fun lk H' => p_resPrime lk H' n hn hn2
 simp -dsimp only [go_sem, reps, k1, k2]
theorem q3k (lk : Nat) (H : Heap) (x : Int) (hx : I64 x) : q0c prog md lk 28 [.int .i64 x] H = some (vR (x : Rat), H) := by
 refine q0a rfl Tryz.func28 rfl rfl ?_
 have k1 := fun lk H' => r2_FromInt lk H' x hx
 have one : [1] = q0b 1 := bytes_one.symm
 simp -dsimp only [go_sem, k1, one]
 exact vR_mk _ _ _ rfl rfl
theorem r3_Make (lk : Nat) (H : Heap) (a b : Int) (hb : b ≠ 0) (hla : (q0b a.natAbs).length < 10000000) (hlb : (q0b b.natAbs).length < 10000000) : q0c prog md lk 135 [vI a, vI b] H = some (vR (Rat.divInt a b), H) := by
 refine q0a rfl Tryz.func135 rfl rfl ?_
 have hbn : b.natAbs ≠ 0 := by omega
 have hbn2 : q0b b.natAbs = [] ↔ False := by rw [q1b]; simp [hbn]
 have hg0 : Nat.gcd a.natAbs b.natAbs ≠ 0 := by
  intro h; exact hbn (Nat.eq_zero_of_gcd_eq_zero_right h)
 have lg := q8p (Nat.gcd_le_right (n := b.natAbs) a.natAbs (by omega))
 have k1 := fun lk H' => r1_Gcd lk H' a.natAbs b.natAbs (by omega) (by omega)
 have k2 := fun lk H' => r1_DivMod lk H' a.natAbs (Nat.gcd a.natAbs b.natAbs) (by omega) (by omega) hg0
 have k3 := fun lk H' => r1_DivMod lk H' b.natAbs (Nat.gcd a.natAbs b.natAbs) (by omega) (by omega) hg0
 obtain ⟨r1, r2⟩ := w4g a b hb
 simp -dsimp only [go_sem, hbn2, k1, k2, k3, w2o]
 exact vR_mk _ _ _ r1 r2
theorem q4l (lk : Nat) (H : Heap) (q : Rat) : q0c prog md lk 134 [vR q] H = some (vI (q.den : Int), H) := by
 refine q0a rfl Tryz.func134 rfl rfl ?_
 simp -dsimp only [go_sem]
 exact vI_pos _
def vp (p n : Nat) : Nat := if h : 2 ≤ p ∧ n ≠ 0 ∧ n % p = 0 then vp p (n / p) + 1 else 0
termination_by n
decreasing_by exact Nat.div_lt_self (Nat.pos_of_ne_zero h.2.1) h.1
section
variable {α : Type} [Enc α]
theorem w1y (h : ∀ x : α, ((Enc.enc x : List Value)).all kok0 = true) (l : List α) : (q0g l).all kok0 = true := by
 induction l with
 | nil => rfl
 | cons x r ih => rw [q1i, List.all_append, ih, h x]; rfl
variable {P : Program} {lk : Nat} {t t2 : TypeId}
end
structure Vtx where
 x : Int
 y : Int
 deriving DecidableEq
instance : Enc Vtx := ⟨fun v => [.int .i64 v.x, .int .i64 v.y], 2, fun _ => rfl⟩
structure Sd where
 s : Rat
 n : Int
 deriving DecidableEq
instance : Enc Sd := ⟨fun v => [.bool (decide (v.s.num < 0)), .string (mkS (q0b v.s.num.natAbs)), .string (mkS (q0b v.s.den)), .int .i64 v.n], 4, fun _ => rfl⟩
theorem Own.low {α : Type} [Enc α] {lo lo' : Nat} {H : Heap} {a : Option Addr} {l : List α} (h : Own lo H a l) (hl : lo' ≤ lo) : Own lo' H a l := by
 rcases h with h | ⟨b, h1, h2, h3⟩
 ·exact .inl h
 ·exact .inr ⟨b, h1, by omega, h3⟩
structure MI where
 v : Int
 deriving DecidableEq
instance : Enc MI := ⟨fun x => [.int .i64 x.v], 1, fun _ => rfl⟩
instance : Enc Bool := ⟨fun x => [.bool x], 1, fun _ => rfl⟩
theorem SL.mi {H : Heap} {a : Option Addr} {f : List MI} (h : SL H a f) (i : Nat) (hi : i < f.length) : ∃ b o B, a = some ⟨b, o, none⟩ ∧ q0e H b = some B ∧ B.sz = 1 ∧ B.c[o + i]? = some (.int .i64 f[i].v) := h.get1 rfl i hi _ rfl
end Gx
end
