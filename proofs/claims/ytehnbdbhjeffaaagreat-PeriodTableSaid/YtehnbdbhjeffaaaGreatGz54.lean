/- Lemmas: plain facts, or contracts of functions that are reached, in the interpreter without world and addresses. -/
import Derived.Test.YtehnbdbhjeffaaaGreatGz39
import Derived.Test.YtehnbdbhjeffaaaGreatGz50
import Derived.Test.YtehnbdbhjeffaaaGreatGz53
set_option linter.all false
set_option linter.unusedVariables false
set_option linter.unusedSimpArgs false
set_option linter.unnecessarySimpa false
set_option linter.deprecated false
section
/- Products of periods as combinations of periods, evaluated. -/
set_option autoImplicit false
namespace Gx
open Go Go.Proofs
set_option maxRecDepth 100000
set_option maxHeartbeats 0
def isum (F : Nat → Int) : Nat → Int
  | 0 => 0
  | n + 1 => isum F n + F n
def tl (p f : Nat) (y : Int) : List Int := (List.range p).map (perT p f y)
def cyT (p : Nat) (A B : List Int) (k : Nat) : Int := isum (fun i => A.getD i 0 * B.getD ((k + (p - i)) % p) 0) p
def cyL (p : Nat) (A B : List Int) : List Int := (List.range p).map (cyT p A B)
def pwY (p f m : Nat) : Int := (pw (prt p) (p : Int) ((p - 1) / f) 1).getD m 0
def vC (C : List Int) (p f m : Nat) : Int := C.getD (pwY p f m).toNat 0 - C.getD 0 0
def prL (p f n : Nat) (C : List Int) (B : List (List Int)) : Bool := (List.range (p - 1)).all (fun k => decide (C.getD k 0 - C.getD (p - 1) 0 = isum (fun m => vC C p f m * ((B.getD m []).getD k 0 - (B.getD m []).getD (p - 1) 0)) n)) && (List.range n).all fun m => decide (-1000 ≤ vC C p f m) && decide (vC C p f m ≤ 1000)
def prM (p f : Nat) : Bool := (List.range ((p - 1) / f)).all fun i => prL p f ((p - 1) / f) (cyL p (tl p f 1) (tl p f (pwY p f i))) ((List.range ((p - 1) / f)).map fun m => tl p f (pwY p f m))
def prD (p : Nat) : Bool := (List.range p).all fun f => !(decide (1 ≤ f) && decide ((p - 1) % f = 0)) || (unC (p - 1) (persL p f) && prM p f)
theorem prD2 : prD 2 = true := by decide +kernel
theorem prD3 : prD 3 = true := by decide +kernel
theorem prD5 : prD 5 = true := by decide +kernel
theorem prD7 : prD 7 = true := by decide +kernel
theorem prD11 : prD 11 = true := by decide +kernel
theorem prD13 : prD 13 = true := by decide +kernel
theorem prD17 : prD 17 = true := by decide +kernel
theorem prD19 : prD 19 = true := by decide +kernel
theorem prD23 : prD 23 = true := by decide +kernel
theorem prD9 {p : Nat} (h : p ∈ P9) : prD p = true := by
  simp only [P9, List.mem_cons, List.not_mem_nil, or_false] at h
  rcases h with rfl | rfl | rfl | rfl | rfl | rfl | rfl | rfl | rfl
  · exact prD2
  · exact prD3
  · exact prD5
  · exact prD7
  · exact prD11
  · exact prD13
  · exact prD17
  · exact prD19
  · exact prD23
theorem pr_ok {p f : Nat} (h : pCkB (p : Int) (f : Int) = 0) : unC (p - 1) (persL p f) = true ∧ prM p f = true := by
  obtain ⟨hp, hf, hm, hlt⟩ := ckB_nat h
  have := List.all_eq_true.1 (prD9 hp) f (List.mem_range.2 hlt)
  rw [decide_eq_true hf, decide_eq_true hm] at this
  simp only [Bool.and_self, Bool.not_true, Bool.false_or, Bool.and_eq_true] at this
  exact this
end Gx
end
section
/- Products of sums of powers. -/
set_option autoImplicit false
namespace Gx
open A
def cyc (p : Nat) (c d : Nat → Rat) (k : Nat) : Rat := sm (fun i => c i * d ((k + (p - i)) % p)) p
theorem Cg.scale {p : Nat} {F G : Nat → Rat} (h : Cg p F G) (x : Rat) : Cg p (fun k => x * F k) (fun k => x * G k) := by
  obtain ⟨m, q, hq, e⟩ := h
  refine ⟨m, fun i => x * q i, fun i hi => ?_, fun k => ?_⟩
  · show x * q i = 0
    rw [hq i hi]; exact Rat.mul_zero _
  · show x * F k = A.conv (fun i => x * q i) (qf (phiP p)) k + x * G k
    rw [conv_mul, e]; grind
theorem Cg.sum {p : Nat} {F G : Nat → Nat → Rat} : ∀ n, (∀ i, i < n → Cg p (F i) (G i)) → Cg p (fun k => sm (fun i => F i k) n) (fun k => sm (fun i => G i k) n)
  | 0, _ => Cg.of fun _ => rfl
  | n + 1, h => (Cg.sum n fun i hi => h i (by omega)).add (h n (by omega))
theorem conv_split (p : Nat) (c : Nat → Rat) (h : Nat → Rat) (k : Nat) : conv (Zc p c) h k = sm (fun i => c i * conv (fun l => if l = i then 1 else 0) h k) p := by
  have e1 : ∀ i, c i * conv (fun l => if l = i then 1 else 0) h k = if i ≤ k then c i * h (k - i) else 0 := fun i => by
    rw [conv_shift]
    split
    · rw [show (1 : R) * h (k - i) = h (k - i) from Rat.one_mul _]
    · exact Rat.mul_zero _
  rw [sm_congr fun i _ => e1 i]
  unfold A.conv
  have h1 : sm (fun i => Zc p c i * h (k - i)) (k + 1) = sm (fun i => if i < p ∧ i ≤ k then c i * h (k - i) else 0) (k + 1) := sm_congr fun i hi => by
    unfold Zc
    by_cases hp : i < p
    · rw [if_pos hp, if_pos ⟨hp, by omega⟩]
    · rw [if_neg hp, if_neg (by omega)]; exact Rat.zero_mul _
  have h2 : sm (fun i => if i ≤ k then c i * h (k - i) else 0) p = sm (fun i => if i < p ∧ i ≤ k then c i * h (k - i) else 0) p := sm_congr fun i hi => by
    by_cases hk : i ≤ k
    · rw [if_pos hk, if_pos ⟨hi, hk⟩]
    · rw [if_neg hk, if_neg (by omega)]
  rw [h1, h2]
  by_cases hpk : p ≤ k + 1
  · exact sm_more _ _ _ hpk fun i hi _ => if_neg (by omega)
  · exact (sm_more _ _ _ (by omega) fun i hi _ => if_neg (by omega)).symm
theorem cg_cyc {p : Nat} (c d : Nat → Rat) : Cg p (A.conv (Zc p c) (Zc p d)) (Zc p (Gx.cyc p c d)) := by
  refine (Cg.of fun k => conv_split p c (Zc p d) k).trans ((Cg.sum (G := fun i k => c i * Zc p (fun k => d ((k + (p - i)) % p)) k) p fun i hi => (Cg.rot hi d).scale (c i)).trans (Cg.of fun k => ?_))
  unfold Zc Gx.cyc
  by_cases hk : k < p
  · rw [if_pos hk]
    exact sm_congr fun i _ => by rw [if_pos hk]
  · rw [if_neg hk]
    exact sm_zero' fun i _ => by rw [if_neg hk]; exact Rat.mul_zero _
theorem mulM_cyc {p : Nat} (hp : 0 < p) {f g : List Rat} {c d : Nat → Rat} (hf : ∀ k, qf f k = Ec p c k) (hg : ∀ k, qf g k = Ec p d k) (k : Nat) : qf (pMod (pMul f g) (phiP p)) k = Ec p (Gx.cyc p c d) k := by
  refine Cg.uniq hp ?_ (Ec_below p _) k
  have h1 : Cg p (qf f) (Zc p c) := (Cg.of hf).trans (Cg.red hp c).symm
  have h2 : Cg p (qf g) (Zc p d) := (Cg.of hg).trans (Cg.red hp d).symm
  refine (Cg.of fun k => qf_mul f g k).trans ((h1.conv (qf_below g)).trans ((Cg.of fun k => conv_comm _ _ k).trans ((h2.conv (Zc_below p c)).trans ((Cg.of fun k => conv_comm _ _ k).trans ((cg_cyc c d).trans (Cg.red hp _))))))
end Gx
end
section
/- Products of periods have whole coordinates; the table. -/
set_option autoImplicit false
namespace Gx
open Go Go.Proofs
set_option maxRecDepth 10000
theorem isum_sm (F : Nat → Int) : ∀ n, ((isum F n : Int) : Rat) = A.sm (fun i => ((F i : Int) : Rat)) n
  | 0 => rfl
  | n + 1 => by rw [isum, A.sm, ← isum_sm F n, Rat.intCast_add]
theorem tl_get {p f : Nat} {y : Int} {k : Nat} (hk : k < p) : (tl p f y).getD k 0 = perT p f y k := by
  unfold tl
  rw [List.getD_eq_getElem?_getD, List.getElem?_map, List.getElem?_range hk]; rfl
theorem persL_pw {p f m : Nat} (hm : m < (p - 1) / f) : rw' (persL p f) m = perL p f (pwY p f m) := by
  unfold rw' persL pwY
  rw [List.getD_eq_getElem?_getD, List.getElem?_map, List.getD_eq_getElem?_getD, List.getElem?_eq_getElem (by rw [pw_len2]; exact hm)]; rfl
theorem persL_one {p f : Nat} (hm : 0 < (p - 1) / f) : rw' (persL p f) 0 = perL p f 1 := by
  rw [persL_pw hm]
  unfold pwY
  obtain ⟨n, hn⟩ : ∃ n, (p - 1) / f = n + 1 := ⟨(p - 1) / f - 1, by omega⟩
  rw [hn]; rfl
def prB (p f i : Nat) : List Rat := pMod (pMul (rw' (persL p f) 0) (rw' (persL p f) i)) (phiP p)
def prV (p f i m : Nat) : Int := vC (cyL p (tl p f 1) (tl p f (pwY p f i))) p f m
theorem pr_rel {p f i : Nat} (hc : pCkB (p : Int) (f : Int) = 0) (hi : i < (p - 1) / f) : (∀ k, k < p - 1 → qf (prB p f i) k = A.sm (fun m => ((prV p f i m : Int) : Rat) * qf (rw' (persL p f) m) k) (persL p f).length) ∧ ∀ m, m < (p - 1) / f → -1000 ≤ prV p f i m ∧ prV p f i m ≤ 1000 := by
  obtain ⟨hp, hf, _, hlt⟩ := ckB_nat hc
  have hp2 := (p9_le hp).1
  have h1 := List.all_eq_true.1 (pr_ok hc).2 i (List.mem_range.2 hi)
  unfold prL at h1
  rw [Bool.and_eq_true, List.all_eq_true, List.all_eq_true] at h1
  obtain ⟨h1, h2⟩ := h1
  have hcy : ∀ k, k < p → (((cyL p (tl p f 1) (tl p f (pwY p f i))).getD k 0 : Int) : Rat) = cyc p (fun k => ((perT p f 1 k : Int) : Rat)) (fun k => ((perT p f (pwY p f i) k : Int) : Rat)) k := fun k hk => by
    unfold cyL
    rw [List.getD_eq_getElem?_getD, List.getElem?_map, List.getElem?_range hk]
    show ((cyT p _ _ k : Int) : Rat) = _
    unfold cyT cyc
    rw [isum_sm]
    exact A.sm_congr fun j hj => by
      rw [tl_get hj, tl_get (Nat.mod_lt _ (by omega)), Rat.intCast_mul]
  refine ⟨fun k hk => ?_, fun m hm => ?_⟩
  · unfold prB
    rw [persL_one (by omega), persL_pw hi, perL_sum, perL_sum, mulM_cyc (by omega) (qf_sum p _) (qf_sum p _)]
    unfold Ec
    rw [if_pos hk, ← hcy k (by omega), ← hcy (p - 1) (by omega), ← Rat.intCast_sub, of_decide_eq_true (h1 k (List.mem_range.2 hk)), isum_sm, persL_len]
    refine A.sm_congr fun m hm => ?_
    have e : ((List.range ((p - 1) / f)).map fun m => tl p f (pwY p f m)).getD m [] = tl p f (pwY p f m) := by
      rw [List.getD_eq_getElem?_getD, List.getElem?_map, List.getElem?_range hm]; rfl
    rw [e, tl_get (by omega), tl_get (by omega), persL_pw hm, perL_sum, qf_sum, Rat.intCast_mul, Rat.intCast_sub]
    unfold Ec
    rw [if_pos hk]
    rfl
  · have := h2 m (List.mem_range.2 hm)
    rw [Bool.and_eq_true, decide_eq_true_iff, decide_eq_true_iff] at this
    exact this
theorem sm_small {z : Int} (h : -1000 ≤ z ∧ z ≤ 1000) : Sm 100 ((z : Int) : Rat) := (sm_int (k := 2) (bl_le (by omega)) (by decide)).mono (by decide)
theorem express_int {p f : Nat} (hc : pCkB (p : Int) (f : Int) = 0) {b : List Rat} {z : Nat → Int} (hb : ∀ k, k < p - 1 → qf b k = A.sm (fun m => ((z m : Int) : Rat) * qf (rw' (persL p f) m) k) (persL p f).length) (hz : ∀ m, m < (persL p f).length → -1000 ≤ z m ∧ z m ≤ 1000) :
    express (p - 1) (persL p f) b = some (mapR (fun m => ((z m : Int) : Rat)) (persL p f).length) ∧ RdOk (exM (p - 1) (persL p f) b) (persL p f).length := by
  obtain ⟨hp, hf, _, hlt⟩ := ckB_nat hc
  have hl := persL_len p f
  have hpd : (p - 1) / f ≤ p - 1 := Nat.div_le_self _ _
  have h23 := (p9_le hp).2
  have := express_comb (v := fun m => if m < (persL p f).length then ((z m : Int) : Rat) else 0) (pr_ok hc).1 (b := b) (fun k hk => by
    rw [hb k hk]
    exact A.sm_congr fun m hm => by rw [if_pos hm]) (fun m => by
    split
    · rename_i h; exact sm_small (hz m h)
    · exact sm_zero.mono (by decide)) (by omega) (by omega)
  rw [mapR_congr (G := fun m => ((z m : Int) : Rat)) fun m hm => by rw [if_pos hm]] at this
  exact this
theorem tabOk {p f : Nat} (hc : pCkB (p : Int) (f : Int) = 0) : TabOk p f := by
  obtain ⟨hp, hf, _, hlt⟩ := ckB_nat hc
  obtain ⟨hp2, hp23⟩ := p9_le hp
  have hl := persL_len p f
  have hpd : (p - 1) / f ≤ p - 1 := Nat.div_le_self _ _
  have hpos : 1 ≤ (p - 1) / f := Nat.div_pos (by omega) (by omega)
  have hE : ∀ i, i < (persL p f).length → Elm p (rw' (persL p f) i) ∧ IntL 2000 (rw' (persL p f) i) := fun i hi => by
    rw [persL_pw (by omega)]
    exact ⟨per_elm hp f _, by rw [perL_sum]; exact sumL_int hp2 fun k _ => perT_le p f _ k⟩
  have hlen : ∀ i, i < (persL p f).length → (rw' (persL p f) i).length ≤ 22 := fun i hi => by have := (hE i hi).1.l; omega
  refine ⟨by omega, hlen, fun i hi => ?_, fun i hi => nrm_mul _ _, fun i hi => ?_, fun i hi => ?_⟩
  · have h0 := hlen 0 (by omega)
    exact .int (hE 0 (by omega)).2 (hE i hi).2 (lt_BB (k := 11) (by decide) (by decide)) (lt_BB (k := 11) (by decide) (by decide)) (lt_BB (k := 40) (Nat.le_trans (Nat.mul_le_mul_right _ (show (rw' (persL p f) 0).length + 1 ≤ 23 by omega)) (by decide)) (by decide))
  · have h0 := hlen 0 (by omega)
    have h1 := hlen i hi
    have hM : IntL (22 * (2000 * 2000)) (pMul (rw' (persL p f) 0) (rw' (persL p f) i)) := ((hE 0 (by omega)).2.mul (hE i hi).2).mono (Nat.mul_le_mul_right _ h0)
    have hml := pMul_le (rw' (persL p f) 0) (rw' (persL p f) i)
    refine .int hM (phiP_int p) (phiP_top (by omega)) (lt_BB (k := 1) (by decide) (by decide)) (lt_BB (k := 200) ?_ (by decide))
    exact Nat.le_trans (Nat.mul_le_mul_left _ (Nat.pow_le_pow_right (by decide) (show (pMul (rw' (persL p f) 0) (rw' (persL p f) i)).length - (phiP p).length + 1 ≤ 60 by omega))) (by decide)
  · obtain ⟨r1, r2⟩ := pr_rel (i := i) hc (by omega)
    exact (express_int hc r1 (fun m hm => r2 m (by omega))).2
theorem tab_row {p f i : Nat} (hc : pCkB (p : Int) (f : Int) = 0) (hi : i < (persL p f).length) : tabR p f i = mapR (fun m => ((prV p f i m : Int) : Rat)) (persL p f).length := by
  have hl := persL_len p f
  obtain ⟨r1, r2⟩ := pr_rel (i := i) hc (by omega)
  unfold tabR
  have := (express_int hc r1 (fun m hm => r2 m (by omega))).1
  unfold prB at this
  rw [this]; rfl
def cbL (L : List (List Rat)) (z : Nat → Int) : Nat → List Rat
  | 0 => []
  | i + 1 => pAdd (cbL L z i) (pScale (rw' L i) ((z i : Int) : Rat))
theorem qf_cb (L : List (List Rat)) (z : Nat → Int) (k : Nat) : ∀ i, qf (cbL L z i) k = A.sm (fun m => ((z m : Int) : Rat) * qf (rw' L m) k) i
  | 0 => qf_ge (by simp [cbL])
  | i + 1 => by rw [cbL, qf_add, qf_scale, qf_cb L z k i, A.sm, Rat.mul_comm]
theorem cb_nrm (L : List (List Rat)) (z : Nat → Int) : ∀ i, Nrm (cbL L z i)
  | 0 => nrm_nil
  | i + 1 => nrm_add _ _
theorem cb_ok {p f : Nat} (hp : p ∈ P9) {z : Nat → Int} (hz : ∀ m, -1000 ≤ z m ∧ z m ≤ 1000) : ∀ i, i ≤ (persL p f).length → IntL (i * 2000000) (cbL (persL p f) z i) ∧ (cbL (persL p f) z i).length ≤ p - 1
  | 0, _ => ⟨fun k => by rw [cbL, qf_ge (by simp)]; exact .zero, Nat.zero_le _⟩
  | i + 1, h => by
    have hi : i < (persL p f).length := by omega
    obtain ⟨h1, h2⟩ := cb_ok (f := f) hp hz i (by omega)
    have hr : rw' (persL p f) i = perL p f (pwY p f i) := persL_pw (by rw [persL_len] at hi; exact hi)
    have he : IntL 2000 (rw' (persL p f) i) := by rw [hr, perL_sum]; exact sumL_int (p9_le hp).1 fun k _ => perT_le p f _ k
    have h3 := pAdd_le (cbL (persL p f) z i) (pScale (rw' (persL p f) i) ((z i : Int) : Rat))
    have h4 := pScale_len (rw' (persL p f) i) ((z i : Int) : Rat)
    have h5 := (per_elm hp f (pwY p f i)).l
    rw [← hr] at h5
    refine ⟨?_, by show (pAdd _ _).length ≤ _; omega⟩
    rw [Nat.add_mul, Nat.one_mul]
    exact h1.add ((he.scale (IntB.of (b := 1000) (by have := hz i; omega))).mono (by decide))
theorem mapR_lrg {z : Nat → Int} {n : Nat} (hz : ∀ m, m < n → -1000 ≤ z m ∧ z m ≤ 1000) : (mapR (fun m => ((z m : Int) : Rat)) n).any lrg = false := by
  rw [List.any_eq_false]
  intro x hx
  obtain ⟨i, hi, rfl⟩ := List.mem_iff_getElem.1 hx
  rw [mapR_get]
  rw [mapR_len] at hi
  have := sm_small (hz i hi)
  unfold lrg
  rw [decide_eq_false (by have := this.n; omega), decide_eq_false (by have := this.d; omega)]
  decide
theorem own_keep {lo : Nat} {H : Heap} {a b : Option Addr} {r : List Rat} (h : Own lo H b r) (ha : ∀ c o e, a = some ⟨c, o, e⟩ → c < lo) : Own lo (kill H a) b r := by
  rcases h with h | ⟨c, rfl, h2, h3⟩
  · exact .inl h
  · refine .inr ⟨c, rfl, h2, kill_other h3 ?_⟩
    intro c' o e he
    have := ha c' o e he
    omega
theorem prB_elm {p f i : Nat} (hc : pCkB (p : Int) (f : Int) = 0) (hi : i < (persL p f).length) : Elm p (prB p f i) ∧ MulModOk (phiP p) (rw' (persL p f) 0) (rw' (persL p f) i) := by
  obtain ⟨hp, hf, _, hlt⟩ := ckB_nat hc
  obtain ⟨hp2, hp23⟩ := p9_le hp
  have hE : ∀ i, i < (persL p f).length → IntL 2000 (rw' (persL p f) i) ∧ (rw' (persL p f) i).length ≤ 22 := fun i hi => by
    rw [persL_pw (by rw [persL_len] at hi; exact hi)]
    exact ⟨by rw [perL_sum]; exact sumL_int hp2 fun k _ => perT_le p f _ k, by have := (per_elm hp f (pwY p f i)).l; omega⟩
  have h0 := hE 0 (by omega)
  have h1 := hE i hi
  have hM : IntL (22 * (2000 * 2000)) (pMul (rw' (persL p f) 0) (rw' (persL p f) i)) := (h0.1.mul h1.1).mono (Nat.mul_le_mul_right _ h0.2)
  have hml := pMul_le (rw' (persL p f) 0) (rw' (persL p f) i)
  have hl := pMod_len (f := pMul (rw' (persL p f) 0) (rw' (persL p f) i)) (phiP_ne (p := p) (by omega)) (phiP_nrm p)
  rw [phiP_len] at hl
  refine ⟨⟨hl.2.2, by unfold prB; omega, (pMod_int hM (phiP_int p) (phiP_top (by omega))).2.mono ?_⟩, .int h0.1 h1.1 (lt_BB (k := 11) (by decide) (by decide)) (lt_BB (k := 11) (by decide) (by decide)) (lt_BB (k := 40) (Nat.le_trans (Nat.mul_le_mul_right _ (show (rw' (persL p f) 0).length + 1 ≤ 23 by omega)) (by decide)) (by decide)), .int hM (phiP_int p) (phiP_top (by omega)) (lt_BB (k := 1) (by decide) (by decide)) (lt_BB (k := 200) ?_ (by decide))⟩
  · exact Nat.le_trans (Nat.mul_le_mul_left _ (Nat.pow_le_pow_right (by decide) (show (pMul (rw' (persL p f) 0) (rw' (persL p f) i)).length + 1 ≤ 44 by omega))) (by decide)
  · exact Nat.le_trans (Nat.mul_le_mul_left _ (Nat.pow_le_pow_right (by decide) (show (pMul (rw' (persL p f) 0) (rw' (persL p f) i)).length + 1 ≤ 60 by omega))) (by decide)
theorem SL.m8 {H : Heap} {a : Option Addr} {f : List M8} (h : SL H a f) (i : Nat) (hi : i < f.length) : ∃ b o B, a = some ⟨b, o, none⟩ ∧ ilive H b = some B ∧ B.sz = 1 ∧ B.c[o + i]? = some (.int .i8 f[i].v) := h.get1 rfl i hi _ rfl
theorem table_run (H : Heap) (a b i : Int) (v : Option Addr) (c : List M8) (ha : 0 ≤ a ∧ a ≤ 255) (hb : 0 ≤ b ∧ b ≤ 255) (hi : 0 ≤ i ∧ i ≤ 255) (hs : SL H v c) (hl : c.length ≤ maxLen) :
    ∃ fuel H', icall Tryz.prog mdO fuel H.length 5 [.agg (List.toArray [.int .u8 a, .int .u8 b]), .slice v c.length c.length, .int .u8 i] H = some (.bool true, H') := by
  refine icall_yes Tryz.func5 rfl ?_
  have k0 := fun lk H' => l48_awake lk H'
  obtain ⟨H1, hH1⟩ : ∃ H1, H1 = H ++ [⟨[.int .u8 a, .int .u8 b], 2, false⟩] := ⟨_, rfl⟩
  have hE1 : Ext H H1 := by rw [hH1]; exact Ext.app _ _
  have l1 := hE1.le
  obtain ⟨p, f, hp, hpf, kp⟩ := l48_pick H1 a b ha hb
  replace kp := fun lk => gcall_up mdLe (kp lk)
  obtain ⟨hp2, hp23⟩ := p9_le hp
  obtain ⟨_, hf0, hfm, hfp⟩ := ckB_nat hpf
  have hps := persL_len p f
  have hpd : (p - 1) / f ≤ p - 1 := Nat.div_le_self _ _
  have hpos : 1 ≤ (p - 1) / f := Nat.div_pos (by omega) (by omega)
  have hc9 : c.length ≤ 9223372036854775807 := Nat.le_trans hl (by decide)
  simp -dsimp only [go_sem]
  rw [← hH1]
  simp -dsimp only [go_sem, kp]
  refine ob_yo (r47_Field hp H1).o (by omega) ?_
  rintro vF H2 hE2 ⟨fa, rfl, hF⟩
  have l2 := hE2.le
  simp -dsimp only [go_sem]
  obtain ⟨H3, hH3⟩ : ∃ H3, H3 = H2 ++ [⟨[.slice fa (phiP p).length (phiP p).length], 1, false⟩] := ⟨_, rfl⟩
  have hE3 : Ext H2 H3 := by rw [hH3]; exact Ext.app _ _
  have l3 := hE3.le
  have hb3 : ilive H3 H2.length = some ⟨[.slice fa (phiP p).length (phiP p).length], 1, false⟩ := by rw [hH3]; exact ilive_new _ _
  refine ⟨by omega, ?_⟩
  rw [← hH3]
  refine ob_yo (p_PeriodsO hp hf0 (by omega) hpf H3) (by omega) ?_
  rintro v4 H4 hE4 ⟨wp, rfl, hP⟩
  have l4 := hE4.le
  obtain ⟨av, rfl⟩ := hP.is
  simp -dsimp only [go_sem]
  refine ob_yo (p_Table hp hf0 (by omega) hpf (tabOk hpf) H4) (by omega) ?_
  rintro v5 H5 hE5 ⟨wt, rfl, hT⟩
  have l5 := hE5.le
  obtain ⟨at', rfl⟩ := hT.is
  rw [tabL_len] at hT ⊢
  have w4 : IntKind.i64.wrap ((p : Int) - 1) = ((p - 1 : Nat) : Int) := by rw [w64 (by omega) (by omega)]; omega
  have w5 : IntKind.i64.wrap (((p - 1 : Nat) : Int).tdiv (f : Int)) = (((p - 1) / f : Nat) : Int) := by
    have : ((p - 1 : Nat) : Int).tdiv (f : Int) = (((p - 1) / f : Nat) : Int) := rfl
    rw [this, w64 (by omega) (by omega)]
  have hf0' : ((f : Int) ≠ 0) = True := eq_true (by omega)
  obtain ⟨z, hz⟩ : ∃ z : Nat → Int, z = fun m => if h : m < c.length then c[m].v else 0 := ⟨_, rfl⟩
  have hzb : ∀ m, -1000 ≤ z m ∧ z m ≤ 1000 := fun m => by
    rw [hz]; dsimp only
    split
    · have := c[m].h1; have := c[m].h2; omega
    · omega
  have hcb := fun i hi => cb_ok (f := f) hp hzb i hi
  have hpw := fun m (hm : m < (persL p f).length) => persL_pw (p := p) (f := f) (m := m) (by rw [persL_len] at hm; exact hm)
  have hcx := express_int (b := cbL (persL p f) z (persL p f).length) hpf (fun k _ => qf_cb _ z k _) (fun m _ => hzb m)
  have hpr := fun m (hm : m < (persL p f).length) => prB_elm (p := p) (f := f) (i := m) hpf hm
  have hrel := fun m (hm : m < (persL p f).length) => pr_rel (p := p) (f := f) (i := m) hpf (by rw [persL_len] at hm; exact hm)
  have hcx2 := fun m (hm : m < (persL p f).length) => express_int (b := prB p f m) (z := prV p f m) hpf (pr_rel (p := p) (f := f) (i := m) hpf (by rw [persL_len] at hm; exact hm)).1 (fun j hj => (pr_rel (p := p) (f := f) (i := m) hpf (by rw [persL_len] at hm; exact hm)).2 j (by rw [persL_len] at hj; exact hj))
  have htr := fun m (hm : m < (persL p f).length) => tab_row (p := p) (f := f) (i := m) hpf hm
  have hel : ∀ m, m < (persL p f).length → Elm p (rw' (persL p f) m) := fun m hm => by rw [hpw m hm]; exact per_elm hp f _
  obtain ⟨L, hL⟩ : ∃ L, L = persL p f := ⟨_, rfl⟩
  obtain ⟨n, hn⟩ : ∃ n, n = L.length := ⟨_, rfl⟩
  have hPL : MV H4 (.slice av n n) L := by rw [hn, hL]; exact hP
  have kC : ∀ {H0 : Heap} {v0 : Value} {x : List Rat}, LV H0 v0 x → elE (phiP p) (x.map rq) = 0 → RdOk (exM (p - 1) L x) n → ∀ y : Nat → Int, (∀ m, m < n → -1000 ≤ y m ∧ y m ≤ 1000) → express (p - 1) L x = some (mapR (fun m => ((y m : Int) : Rat)) n) →
      YieldsO 20 [.int .i64 (p : Int), .int .i64 (f : Int), v0] H0 (fun u H' => ∃ w, u = .tuple #[w, .int .i64 0] ∧ LV H' w (mapR (fun m => ((y m : Int) : Rat)) n)) := by
    intro H0 v0 x hv hx ok y hy he
    subst hn
    subst hL
    refine (p_Coord hp hf0 (by omega) hpf hv hx (by omega) ok).mono ?_
    intro u H' _ h
    rw [he] at h
    simp only at h
    rw [if_neg (by rw [mapR_lrg hy]; decide)] at h
    exact h
  rw [← hL, ← hn] at hps hT hcb hcx hcx2 hrel htr hpr hel ⊢
  rw [← hps] at w5 hpos hpd
  have hcl : (cbL L z n).length ≤ p - 1 := (hcb n (Nat.le_refl _)).2
  have hcE : Elm p (cbL L z n) := ⟨cb_nrm _ _ _, hcl, (hcb n (Nat.le_refl _)).1.mono (Nat.le_trans (Nat.mul_le_mul_right _ (show n ≤ 22 by omega)) (by decide))⟩
  simp -dsimp only [go_sem, w4, w5, hf0']
  refine r_loop2 (m := fun (s : Nat × Value × Option Addr × Nat) => n - s.1) (I := fun s σ H' => s.1 ≤ n ∧ Ext H5 H' ∧ s.2.2.2 ≤ H'.length ∧ H5.length ≤ s.2.2.2 ∧ OV s.2.2.2 H' s.2.1 (cbL L z s.1) ∧ Own H5.length H' s.2.2.1 (mapR (fun m => ((z m : Int) : Rat)) s.1) ∧ (∀ c o e, s.2.2.1 = some ⟨c, o, e⟩ → c < s.2.2.2) ∧ σ 1 = .slice v c.length c.length ∧ σ 2 = .int .u8 i ∧ σ 7 = .int .i64 (p : Int) ∧ σ 8 = .int .i64 (f : Int) ∧ σ 9 = .pointer (some ⟨H2.length, 0, none⟩) ∧ σ 10 = .slice av n n ∧ σ 12 = .slice at' n n ∧ σ 14 = s.2.1 ∧ σ 15 = .slice s.2.2.1 s.1 s.1 ∧ σ 65 = .int .i64 (n : Int) ∧ σ 66 = .int .i64 (s.1 : Int)) (0, .slice none 0 0, none, H5.length) ⟨Nat.zero_le _, Ext.refl _, Nat.le_refl _, Nat.le_refl _, OV.nil, Own.nil, (by simp), rfl, rfl, rfl, rfl, rfl, rfl, rfl, rfl, rfl, rfl, rfl⟩ ?_
  rintro ⟨k, vx, aw, mid⟩ σ H' ⟨h1, hE, hm1, hm2, hX, hW, hWm, s1, s2, s7, s8, s9, s10, s12, s14, s15, s65, s66⟩
  simp only at h1 hm1 hm2 hX hW hWm s14 s15 s66
  have lo := hE.le
  have hP' := hPL.ext hE5
  have hE35 := hE4.trans hE5
  have hb' := (hE35.trans hE).live hb3
  have hF' : FV H' (.agg (List.toArray [.slice fa (phiP p).length (phiP p).length])) (phiP p) := ⟨fa, rfl, ((hE3.trans hE35).trans hE).sl hF⟩
  by_cases hk : k < n
  · have f1 := ltI hk
    have e7 := inc64 hk (by omega)
    obtain ⟨p1, d1, x1, x2, x3⟩ := hP'.ix rowT_P k (by omega)
    have x26 := x2
    replace x2 := x2 H' hE
    have hkL : k < L.length := by omega
    have ek : Elm p L[k] := by rw [← rw_eq hkL]; exact hel k hk
    have kE := fun lk => gcall_up mdLe (r30_Element hF' (LV.unrq ⟨d1, rfl, hE.sl x3⟩) (phiP_nrm p) (by rw [phiP_len]; omega) (phiP_sm p) (phiP_form p hp) (by rw [phiP_len]; omega) lk)
    rw [ek.ck hp] at kE
    have hlen := mapR_len (fun m => ((z m : Int) : Rat)) k
    have hap := ap_rat (lk := H.length) (t := 22) (t2 := 22) te_Rats te_Rats hW (by omega) hlen.symm (by omega) ((z k : Int) : Rat)
    have hO2 := own_rat hE hW ((z k : Int) : Rat) [⟨rC ((z k : Int) : Rat), 3, false⟩]
    have hE6 := ext_rat hE hW [⟨rC ((z k : Int) : Rat), 3, false⟩] [⟨cells (mapR (fun m => ((z m : Int) : Rat)) k) ++ rC ((z k : Int) : Rat), 3, false⟩]
    rw [← mapR_succ (F := fun m => ((z m : Int) : Rat))] at hO2
    obtain ⟨H6, hH6⟩ : ∃ H6, H6 = kill (H' ++ [⟨rC ((z k : Int) : Rat), 3, false⟩]) aw ++ [⟨cells (mapR (fun m => ((z m : Int) : Rat)) k) ++ rC ((z k : Int) : Rat), 3, false⟩] := ⟨_, rfl⟩
    obtain ⟨ax, hvx, hXo⟩ := hX
    have hX6 : Own mid H6 ax (cbL L z k) := by rw [hH6]; exact (own_keep (hXo.more _) hWm).more _
    have hl6 : H6.length = H'.length + 2 := by rw [hH6]; simp [kill_len]
    rw [← hH6] at hap hO2 hE6
    have hb6 := (hE35.trans hE6).live hb3
    have zk := hzb k
    have kF := fun lk H => gcall_up mdLe (r3_FromInt lk H (z k) ⟨by omega, by omega⟩)
    have l6 := hE6.le
    replace hO2 : Own H5.length H6 (some ⟨H'.length + 1, 0, none⟩) (mapR (fun m => ((z m : Int) : Rat)) (k + 1)) := hO2
    have hrowx : LV H6 (.slice d1 L[k].length L[k].length) L[k] := ⟨d1, rfl, hE6.sl x3⟩
    replace x26 := x26 H6 hE6
    have hcbk := hcb k (by omega)
    have hsz : SzL (cbL L z k) := (hcbk.1.mono (c := 2 ^ 30) (Nat.le_trans (Nat.mul_le_mul_right _ (show k ≤ 22 by omega)) (by decide))).szL (lt_BB (k := 30) (Nat.le_refl _) (by decide))
    have zs : Sz ((z k : Int) : Rat) := (sm_small zk).mono (by decide)
    have hpsl := pScale_len L[k] ((z k : Int) : Rat)
    have hekl := ek.l
    have hsc : SzL (pScale L[k] ((z k : Int) : Rat)) := ((ek.b.scale (IntB.of (b := 1000) (by omega))).mono (c := 2 ^ 110) (by decide)).szL (lt_BB (k := 110) (Nat.le_refl _) (by decide))
    by_cases hkc : k < c.length
    · have f2 : ((k : Int) < (c.length : Int)) = True := eq_true (by omega)
      obtain ⟨vb, vo, VB, rfl, hVB, hVz, hVg⟩ := hs.m8 k hkc
      have hVB' := (hE1.trans (hE2.trans (hE3.trans (hE35.trans hE)))).live hVB
      have hzk : c[k].v = z k := by rw [hz]; dsimp only; rw [dif_pos hkc]
      rw [hzk] at hVg
      have w6 := wI64 (n := z k) (by omega) (by omega)
      simp -dsimp only [go_sem, s1, s2, s7, s8, s9, s10, s12, s14, s15, s65, s66, f1, x1, x2, hb', kE, f2, hkc, hVB', hVz, hVg, w6, kF, reps, hap, x26]
      refine ob_yo (r6_Scale hrowx ek.sz zs (by omega)).o (by omega) ?_
      rintro v7 H7 hE7 g7
      have l7 := hE7.le
      simp -dsimp only [go_sem, s14]
      refine ob_yo (r6_Add ⟨ax, hvx, (hX6.sl : SL H6 ax _) |> hE7.sl⟩ g7.lv hsz hsc (by omega) (by omega)).o (by omega) ?_
      rintro v8 H8 hE8 g8
      have l8 := hE8.le
      simp -dsimp only [go_sem, s1, s2, s7, s8, s9, s10, s12, s14, s15, s65, s66, e7]
      have hnew : pAdd (cbL L z k) (pScale L[k] ((z k : Int) : Rat)) = cbL L z (k + 1) := by rw [cbL, rw_eq hkL]
      rw [hnew] at g8
      exact next (k + 1, v8, some ⟨H'.length + 1, 0, none⟩, H7.length) (by show n - (k + 1) < n - k; omega) ⟨hk, (hE6.trans hE7).trans hE8, l8, by show H5.length ≤ H7.length; omega, g8, (hE7.trans hE8).own hO2, fun c' o e he => by
        injection he with he
        injection he with h1 _ _
        show c' < H7.length
        omega, s1, s2, s7, s8, s9, s10, s12, rfl, rfl, s65, rfl⟩
    · have f2 : ((k : Int) < (c.length : Int)) = False := eq_false (by omega)
      have hzk : z k = 0 := by rw [hz]; dsimp only; rw [dif_neg hkc]
      rw [hzk] at kF hap
      have hzk' : ((0 : Int) : Rat) = ((z k : Int) : Rat) := by rw [hzk]
      rw [hzk'] at kF hap
      simp -dsimp only [go_sem, s1, s2, s7, s8, s9, s10, s12, s14, s15, s65, s66, f1, x1, x2, hb', kE, f2, kF, reps, hap, x26]
      refine ob_yo (r6_Scale hrowx ek.sz zs (by omega)).o (by omega) ?_
      rintro v7 H7 hE7 g7
      have l7 := hE7.le
      simp -dsimp only [go_sem, s14]
      refine ob_yo (r6_Add ⟨ax, hvx, (hX6.sl : SL H6 ax _) |> hE7.sl⟩ g7.lv hsz hsc (by omega) (by omega)).o (by omega) ?_
      rintro v8 H8 hE8 g8
      have l8 := hE8.le
      simp -dsimp only [go_sem, s1, s2, s7, s8, s9, s10, s12, s14, s15, s65, s66, e7]
      have hnew : pAdd (cbL L z k) (pScale L[k] ((z k : Int) : Rat)) = cbL L z (k + 1) := by rw [cbL, rw_eq hkL]
      rw [hnew] at g8
      exact next (k + 1, v8, some ⟨H'.length + 1, 0, none⟩, H7.length) (by show n - (k + 1) < n - k; omega) ⟨hk, (hE6.trans hE7).trans hE8, l8, by show H5.length ≤ H7.length; omega, g8, (hE7.trans hE8).own hO2, fun c' o e he => by
        injection he with he
        injection he with h1 _ _
        show c' < H7.length
        omega, s1, s2, s7, s8, s9, s10, s12, rfl, rfl, s65, rfl⟩
  · have hk' : k = n := by omega
    have f1 : ((k : Int) < (n : Int)) = False := eq_false (by omega)
    simp -dsimp only [go_sem, s1, s2, s7, s8, s9, s10, s12, s14, s15, s65, s66, f1]
    rw [hk'] at hX hW s15
    refine ob_yo (kC hX.lv (hcE.ck hp) hcx.2 z (fun m _ => hzb m) hcx.1) (by omega) ?_
    rintro v6 H6 hE6 ⟨w6, rfl, g6⟩
    have l6 := hE6.le
    have hwl := mapR_len (fun m => ((z m : Int) : Rat)) n
    have q1 := fun lk => gcall_up mdLe (s_EqR g6 (LV.ext ⟨aw, by rw [hwl], hW.sl⟩ hE6) (by omega) (by omega) lk)
    rw [decide_eq_true rfl] at q1
    obtain ⟨q, hq⟩ : ∃ q : Nat, i.tmod (n : Int) = (q : Int) := ⟨(i.tmod (n : Int)).toNat, by have := Int.tmod_nonneg (n : Int) hi.1; omega⟩
    have hqn : q < n := by have := Int.tmod_lt_of_pos i (show (0 : Int) < (n : Int) by omega); omega
    have w9 := wI64 (n := i) (by omega) (by omega)
    have w10 := wI64 (n := (q : Int)) (by omega) (by omega)
    have hn0 : ((n : Int) ≠ 0) = True := eq_true (by omega)
    have hE56 := hE.trans hE6
    have hb6 := (hE35.trans hE56).live hb3
    obtain ⟨p0, d0, x1, x2, x3⟩ := hP'.ix rowT_P 0 (by omega)
    obtain ⟨p1, d1, y1, y2, y3⟩ := hP'.ix rowT_P q (by omega)
    replace x2 := x2 H6 hE56
    replace y2 := y2 H6 hE56
    have x1 : iindexAddr Tryz.prog 62 (.slice av n n) (.int .i64 0) = some p0 := x1
    have hF6 : FV H6 (.agg (List.toArray [.slice fa (phiP p).length (phiP p).length])) (phiP p) := ⟨fa, rfl, ((hE3.trans hE35).trans hE56).sl hF⟩
    simp -dsimp only [go_sem, q1, s15, s1, s2, s7, s8, s9, s10, s12, w9, hq, w10, hn0, hb6, x1, x2, y1, y2]
    have hpq := hpr q hqn
    rw [rw_eq (show 0 < L.length by omega), rw_eq (show q < L.length by omega)] at hpq
    have e0 := hel 0 (by omega)
    have eq' := hel q (by omega)
    rw [rw_eq (by omega)] at e0 eq'
    have e0l := e0.l
    have eql := eq'.l
    refine ob_yo (r30_Mul hF6 ⟨d0, rfl, hE56.sl x3⟩ ⟨d1, rfl, hE56.sl y3⟩ (phiP_ne (by omega)) (phiP_nrm p) hpq.2 (by rw [phiP_len]; omega) (by omega) (by omega)).o (by omega) ?_
    rintro v7 H7 hE7 g7
    have l7 := hE7.le
    have hpB : pMulM (phiP p) L[0] L[q] = prB p f q := by
      unfold pMulM prB
      rw [← hL, rw_eq (show 0 < L.length by omega), rw_eq (show q < L.length by omega)]
    rw [hpB] at g7
    simp -dsimp only [go_sem]
    refine ob_yo (kC g7.lv (hpq.1.ck hp) (hcx2 q hqn).2 (prV p f q) (fun m hm => (hrel q hqn).2 m (by omega)) (hcx2 q hqn).1) (by omega) ?_
    rintro v8 H8 hE8 ⟨w8, rfl, g8⟩
    have l8 := hE8.le
    obtain ⟨p2, d2, z1, z2, z3⟩ := hT.ix rowT_M q (by rw [tabL_len]; exact hqn)
    have hE58 := (hE56.trans hE7).trans hE8
    replace z2 := z2 H8 hE58
    have htq : (tabL p f n)[q]'(by rw [tabL_len]; exact hqn) = mapR (fun m => ((prV p f q m : Int) : Rat)) n := by
      rw [← htr q hqn]; simp [tabL]
    rw [htq] at z2 z3
    have hml := mapR_len (fun m => ((prV p f q m : Int) : Rat)) n
    have q2 := fun lk => gcall_up mdLe (s_EqR g8 (w := .slice d2 (mapR (fun m => ((prV p f q m : Int) : Rat)) n).length (mapR (fun m => ((prV p f q m : Int) : Rat)) n).length) ⟨d2, rfl, hE58.sl z3⟩ (by omega) (by omega) lk)
    rw [decide_eq_true rfl] at q2
    simp -dsimp only [go_sem, s12, z1, z2, q2, k0]
end Gx
end
