/- Lemmas for the row: plain facts, or contracts of functions. -/
import Derived.Test.YtehnbdbhjeffaaaGreatGz47
import Derived.Test.YtehnbdbhjeffaaaGreatGz50
import Derived.Test.YtehnbdbhjeffaaaGreatGz51
set_option linter.all false
section
/- Products of periods as combinations of periods, evaluated. -/
set_option autoImplicit false
namespace Gx
open Go Go.Proofs
set_option maxRecDepth 100000
set_option maxHeartbeats 0
def isum (F : Nat → Int) : Nat → Int
 | 0 => 0
 | n + 1 => isum F n + F n
def pwY (p f m : Nat) : Int := (pw (prt p) (p : Int) ((p - 1) / f) 1).getD m 0
end Gx
end
section
/- Products of sums of powers. -/
set_option autoImplicit false
namespace Gx
open A
def cyc (p : Nat) (c d : Nat → Rat) (k : Nat) : Rat := sm (fun i => c i * d ((k + (p - i)) % p)) p
theorem Cg.scale {p : Nat} {F G : Nat → Rat} (h : Cg p F G) (x : Rat) : Cg p (fun k => x * F k) (fun k => x * G k) := by
 obtain ⟨m, q, hq, e⟩ := h
 refine ⟨m, fun i => x * q i, fun i hi => ?_, fun k => ?_⟩
 ·show x * q i = 0
  rw [hq i hi]; exact Rat.mul_zero _
 ·show x * F k = A.conv (fun i => x * q i) (qf (phiP p)) k + x * G k
  rw [conv_mul, e]; grind
theorem Cg.sum {p : Nat} {F G : Nat → Nat → Rat} : ∀ n, (∀ i, i < n → Cg p (F i) (G i)) → Cg p (fun k => sm (fun i => F i k) n) (fun k => sm (fun i => G i k) n)
 | 0, _ => Cg.of fun _ => rfl
 | n + 1, h => (Cg.sum n fun i hi => h i (by omega)).add (h n (by omega))
theorem conv_split (p : Nat) (c : Nat → Rat) (h : Nat → Rat) (k : Nat) : conv (Zc p c) h k = sm (fun i => c i * conv (fun l => if l = i then 1 else 0) h k) p := by
 have e1 : ∀ i, c i * conv (fun l => if l = i then 1 else 0) h k = if i ≤ k then c i * h (k - i) else 0 := fun i => by
  rw [conv_shift]
  split
  ·rw [show (1 : R) * h (k - i) = h (k - i) from Rat.one_mul _]
  ·exact Rat.mul_zero _
 rw [sm_congr fun i _ => e1 i]
 unfold A.conv
 have h1 : sm (fun i => Zc p c i * h (k - i)) (k + 1) = sm (fun i => if i < p ∧ i ≤ k then c i * h (k - i) else 0) (k + 1) := sm_congr fun i hi => by
  unfold Zc
  by_cases hp : i < p
  ·rw [if_pos hp, if_pos ⟨hp, by omega⟩]
  ·rw [if_neg hp, if_neg (by omega)]; exact Rat.zero_mul _
 have h2 : sm (fun i => if i ≤ k then c i * h (k - i) else 0) p = sm (fun i => if i < p ∧ i ≤ k then c i * h (k - i) else 0) p := sm_congr fun i hi => by
  by_cases hk : i ≤ k
  ·rw [if_pos hk, if_pos ⟨hi, hk⟩]
  ·rw [if_neg hk, if_neg (by omega)]
 rw [h1, h2]
 by_cases hpk : p ≤ k + 1
 ·exact sm_more _ _ _ hpk fun i hi _ => if_neg (by omega)
 ·exact (sm_more _ _ _ (by omega) fun i hi _ => if_neg (by omega)).symm
theorem cg_cyc {p : Nat} (c d : Nat → Rat) : Cg p (A.conv (Zc p c) (Zc p d)) (Zc p (Gx.cyc p c d)) := by
 refine (Cg.of fun k => conv_split p c (Zc p d) k).trans ((Cg.sum (G := fun i k => c i * Zc p (fun k => d ((k + (p - i)) % p)) k) p fun i hi => (Cg.rot hi d).scale (c i)).trans (Cg.of fun k => ?_))
 unfold Zc Gx.cyc
 by_cases hk : k < p
 ·rw [if_pos hk]
  exact sm_congr fun i _ => by rw [if_pos hk]
 ·rw [if_neg hk]
  exact sm_zero' fun i _ => by rw [if_neg hk]; exact Rat.mul_zero _
theorem mulM_cyc {p : Nat} (hp : 0 < p) {f g : List Rat} {c d : Nat → Rat} (hf : ∀ k, qf f k = Ec p c k) (hg : ∀ k, qf g k = Ec p d k) (k : Nat) : qf (pMod (pMul f g) (phiP p)) k = Ec p (Gx.cyc p c d) k := by
 refine Cg.uniq hp ?_ (Ec_below p _) k
 have h1 : Cg p (qf f) (Zc p c) := (Cg.of hf).trans (Cg.red hp c).symm
 have h2 : Cg p (qf g) (Zc p d) := (Cg.of hg).trans (Cg.red hp d).symm
 refine (Cg.of fun k => qf_mul f g k).trans ((h1.conv (q8v g)).trans ((Cg.of fun k => conv_comm _ _ k).trans ((h2.conv (Zc_below p c)).trans ((Cg.of fun k => conv_comm _ _ k).trans ((cg_cyc c d).trans (Cg.red hp _))))))
end Gx
end
section
/- Products of periods have whole coordinates; the table. -/
set_option autoImplicit false
namespace Gx
open Go Go.Proofs
set_option maxRecDepth 10000
theorem isum_sm (F : Nat → Int) : ∀ n, ((isum F n : Int) : Rat) = A.sm (fun i => ((F i : Int) : Rat)) n
 | 0 => rfl
 | n + 1 => by rw [isum, A.sm, ← isum_sm F n, Rat.intCast_add]
theorem w4j {p f m : Nat} (hm : m < (p - 1) / f) : rw' (q0f p f) m = perL p f (pwY p f m) := by
 unfold rw' q0f pwY
 rw [List.getD_eq_getElem?_getD, List.getElem?_map, List.getD_eq_getElem?_getD, List.getElem?_eq_getElem (by rw [pw_len2]; exact hm)]; rfl
def prB (p f i : Nat) : List Rat := pMod (pMul (rw' (q0f p f) 0) (rw' (q0f p f) i)) (phiP p)
def ccf (a : List Int) : Nat → Rat := fun k => ((a.getD k 0 : Int) : Rat)
def El (p : Nat) (f : List Rat) (a : List Int) : Prop := ∀ k, qf f k = Ec p (ccf a) k
abbrev Wt := List (Nat × Int)
def wsum (F : Nat → Int) : Wt → Int
 | [] => 0
 | s :: S => wsum F S + s.2 * F s.1
def sup (p f : Nat) (y : Int) : Wt := (List.range p).filterMap fun i => if perT p f y i = 0 then none else some (i, perT p f y i)
theorem wsum_app (F : Nat → Int) (S T : Wt) : wsum F (S ++ T) = wsum F S + wsum F T := by
 induction S with
 | nil => simp [wsum]
 | cons s S ih => rw [List.cons_append, wsum, wsum, ih]; omega
theorem wsum_filt (G F : Nat → Int) : ∀ n, wsum F ((List.range n).filterMap fun i => if G i = 0 then none else some (i, G i)) = isum (fun i => G i * F i) n
 | 0 => rfl
 | n + 1 => by
  rw [List.range_succ, List.filterMap_append, wsum_app, wsum_filt G F n, isum]
  congr 1
  by_cases h : G n = 0
  ·simp [h, wsum]
  ·simp [h, wsum]
def rotS (p : Nat) (S : Wt) (a : List Int) : List Int := (List.range p).map fun k => wsum (fun h => a.getD ((k + (p - h)) % p) 0) S
theorem rotS_get {p : Nat} (S : Wt) (a : List Int) {k : Nat} (hk : k < p) : (rotS p S a).getD k 0 = wsum (fun h => a.getD ((k + (p - h)) % p) 0) S := by
 unfold rotS
 rw [List.getD_eq_getElem?_getD, List.getElem?_map, List.getElem?_range hk]; rfl
theorem rotS_cyc {p f : Nat} {y : Int} (a : List Int) {k : Nat} (hk : k < p) : ccf (rotS p (sup p f y) a) k = cyc p (fun i => ((perT p f y i : Int) : Rat)) (ccf a) k := by
 show (((rotS p (sup p f y) a).getD k 0 : Int) : Rat) = _
 rw [rotS_get _ _ hk]
 unfold sup
 rw [wsum_filt (perT p f y), isum_sm]
 unfold cyc
 exact A.sm_congr fun i _ => by rw [Rat.intCast_mul]; rfl
theorem Ec_congr {p : Nat} {c d : Nat → Rat} (hp : 0 < p) (h : ∀ k, k < p → c k = d k) (k : Nat) : Ec p c k = Ec p d k := by
 unfold Ec
 split
 ·rw [h k (by omega), h (p - 1) (by omega)]
 ·rfl
theorem El.mul {p f : Nat} {y : Int} (hp : 0 < p) {x : List Rat} {a : List Int} (h : El p x a) : El p (pMod (pMul x (perL p f y)) (phiP p)) (rotS p (sup p f y) a) := fun k => by
 rw [pMul_comm, q8y, mulM_cyc hp (qf_sum p _) h k]
 exact Ec_congr hp (fun k hk => (rotS_cyc a hk).symm) k
def subZ (a b : List Int) : List Int := List.zipWith (· - ·) a b
theorem subZ_get {a b : List Int} (h : a.length = b.length) (k : Nat) : (subZ a b).getD k 0 = a.getD k 0 - b.getD k 0 := by
 unfold subZ
 simp only [List.getD_eq_getElem?_getD, List.getElem?_zipWith]
 by_cases hk : k < a.length
 ·rw [List.getElem?_eq_getElem hk, List.getElem?_eq_getElem (by omega)]; rfl
 ·rw [List.getElem?_eq_none (by omega), List.getElem?_eq_none (by omega)]; rfl
theorem El.sub {p : Nat} {x y : List Rat} {a b : List Int} (h : El p x a) (g : El p y b) (hl : a.length = b.length) : El p (pSub x y) (subZ a b) := fun k => by
 rw [qf_sub, h k, g k]
 unfold Ec ccf
 rw [subZ_get hl, subZ_get hl, Rat.intCast_sub, Rat.intCast_sub]
 split <;> grind
theorem El.add0 {p : Nat} {x : List Rat} {a : List Int} (h : El p x a) : El p (pAdd [] x) a := fun k => by
 rw [qf_add, q2a (Nat.zero_le _), h k, Rat.zero_add]
theorem El.nil {p : Nat} : El p [] (List.replicate p 0) := fun k => by
 rw [q2a (Nat.zero_le _)]
 unfold Ec ccf
 have : ∀ j, (List.replicate p (0 : Int)).getD j 0 = 0 := fun j => by
  rw [List.getD_eq_getElem?_getD, List.getElem?_replicate]; split <;> rfl
 rw [this, this]
 split <;> grind
structure ElL (p : Nat) (P : List (List Rat)) (A : List (List Int)) : Prop where
 len : P.length = A.length
 el : ∀ j, j < P.length → El p (rw' P j) (A.getD j [])
 l : ∀ j, j < P.length → (A.getD j []).length = p
 s : ∀ j, j < P.length → (rw' P j).length ≤ p - 1
def nxI (p : Nat) (S : Wt) : List Int → List (List Int) → List (List Int)
 | prev, [] => [prev]
 | prev, a :: A => subZ prev (rotS p S a) :: nxI p S a A
theorem nxI_len (p : Nat) (S : Wt) : ∀ (A : List (List Int)) (prev : List Int), (nxI p S prev A).length = A.length + 1
 | [], _ => rfl
 | a :: A, _ => by rw [nxI, List.length_cons, nxI_len p S A]; rfl
theorem nxI_get (p : Nat) (S : Wt) : ∀ (A : List (List Int)) (prev : List Int) (j : Nat), j ≤ A.length → (nxI p S prev A).getD j [] = if j < A.length then subZ ((prev :: A).getD j []) (rotS p S (A.getD j [])) else (prev :: A).getD j []
 | [], prev, j, h => by
  have : j = 0 := by simpa using h
  subst this
  rfl
 | a :: A, prev, 0, _ => by simp [nxI]
 | a :: A, prev, j + 1, h => by
  rw [nxI, List.getD_cons_succ, nxI_get p S A a j (by simpa using h)]
  simp only [List.getD_cons_succ, List.length_cons, Nat.add_lt_add_iff_right]
def nxE (P : List (List Rat)) (j : Nat) : List Rat := if j = 0 then [] else pAdd [] (rw' P (j - 1))
theorem nxS_get (phi x : List Rat) (P : List (List Rat)) : ∀ K, K ≤ P.length → ∀ j, rw' (nxS phi x P K) j = if j < K then pSub (nxE P j) (pMod (pMul (rw' P j) x) phi) else if j = K then nxE P j else []
 | 0, _, j => by
  rw [nxS, if_neg (by omega)]
  have : rw' (List.replicate (P.length + 1) []) j = ([] : List Rat) := by
   unfold rw'; rw [List.getD_eq_getElem?_getD, List.getElem?_replicate]; split <;> rfl
  rw [this]
  by_cases h : j = 0
  ·rw [if_pos h, h]; rfl
  ·rw [if_neg h]
 | K + 1, hK, j => by
  have ih := nxS_get phi x P K (by omega)
  have hl := w0o phi x P K
  have hlA := nxA_len (nxS phi x P K) P K
  have e0 : rw' (nxS phi x P K) (K + 1) = [] := by rw [ih (K + 1), if_neg (by omega), if_neg (by omega)]
  have e1 : nxE P (K + 1) = pAdd [] (rw' P K) := by unfold nxE; rw [if_neg (by omega), Nat.add_sub_cancel]
  have eA : ∀ i, rw' (nxA (nxS phi x P K) P K) i = if i = K + 1 then nxE P (K + 1) else rw' (nxS phi x P K) i := fun i => by
   unfold nxA
   rw [q5y _ _ _ _ (by omega), e0, e1]
  have eK : rw' (nxA (nxS phi x P K) P K) K = nxE P K := by rw [eA K, if_neg (by omega), ih K, if_neg (by omega), if_pos rfl]
  rw [nxS, q5y _ _ _ _ (by omega), eK, eA j, ih j]
  by_cases h1 : j = K
  ·rw [if_pos h1, if_pos (by omega), h1]
  ·rw [if_neg h1]
   by_cases h2 : j = K + 1
   ·rw [if_pos h2, if_neg (by omega), if_pos h2, h2]
   ·rw [if_neg h2, if_neg h2]
    by_cases h3 : j < K
    ·rw [if_pos h3, if_pos (by omega)]
    ·rw [if_neg h3, if_neg h1, if_neg (by omega)]
theorem rotS_len (p : Nat) (S : Wt) (a : List Int) : (rotS p S a).length = p := by simp [rotS]
theorem subZ_len {a b : List Int} (h : a.length = b.length) : (subZ a b).length = a.length := by simp [subZ, h]
section
variable {p f : Nat} {y : Int} {P : List (List Rat)} {A : List (List Int)}
theorem ElL.nxE (h : ElL p P A) {j : Nat} (hj : j ≤ P.length) : El p (nxE P j) ((List.replicate p 0 :: A).getD j []) ∧ ((List.replicate p 0 :: A).getD j []).length = p ∧ (nxE P j).length ≤ p - 1 := by
 unfold Gx.nxE
 by_cases h0 : j = 0
 ·subst h0
  exact ⟨El.nil, by simp, by simp⟩
 ·obtain ⟨i, rfl⟩ : ∃ i, j = i + 1 := ⟨j - 1, by omega⟩
  rw [if_neg h0, List.getD_cons_succ, Nat.add_sub_cancel]
  have := w0n [] (rw' P i)
  have hs := h.s i (by omega)
  simp only [List.length_nil] at this
  exact ⟨(h.el i (by omega)).add0, h.l i (by omega), by omega⟩
theorem ElL.mul (h : ElL p P A) (hp : 2 ≤ p) {j : Nat} (hj : j < P.length) : El p (pMod (pMul (rw' P j) (perL p f y)) (phiP p)) (rotS p (sup p f y) (A.getD j [])) ∧ (pMod (pMul (rw' P j) (perL p f y)) (phiP p)).length ≤ p - 1 := by
 have hm := (q4n (f := pMul (rw' P j) (perL p f y)) (q5p (p := p) (by omega)) (q3u p)).1
 rw [q1q] at hm
 exact ⟨(h.el j hj).mul (by omega), by omega⟩
theorem ElL.next (h : ElL p P A) (hp : 2 ≤ p) : ElL p (nxS (phiP p) (perL p f y) P P.length) (nxI p (sup p f y) (List.replicate p 0) A) := by
 have hl := h.len
 have key : ∀ j, j < (nxS (phiP p) (perL p f y) P P.length).length → El p (rw' (nxS (phiP p) (perL p f y) P P.length) j) ((nxI p (sup p f y) (List.replicate p 0) A).getD j []) ∧ ((nxI p (sup p f y) (List.replicate p 0) A).getD j []).length = p ∧ (rw' (nxS (phiP p) (perL p f y) P P.length) j).length ≤ p - 1 := fun j hj => by
  rw [w0o] at hj
  rw [nxS_get _ _ _ _ (Nat.le_refl _), nxI_get _ _ _ _ _ (by omega)]
  obtain ⟨e1, e2, e3⟩ := h.nxE (j := j) (by omega)
  by_cases hjl : j < P.length
  ·rw [if_pos hjl, if_pos (by omega)]
   obtain ⟨m1, m2⟩ := h.mul (f := f) (y := y) hp hjl
   have hrl := rotS_len p (sup p f y) (A.getD j [])
   refine ⟨e1.sub m1 (by omega), by rw [subZ_len (by omega)]; exact e2, ?_⟩
   have h1 := w0n (Gx.nxE P j) (q6b (pMod (pMul (rw' P j) (perL p f y)) (phiP p)) (-1))
   have h2 := q6r (pMod (pMul (rw' P j) (perL p f y)) (phiP p)) (-1)
   unfold pSub
   omega
  ·rw [if_neg hjl, if_pos (by omega), if_neg (by omega)]
   exact ⟨e1, e2, e3⟩
 exact ⟨by rw [w0o, nxI_len, hl], fun j hj => (key j hj).1, fun j hj => (key j hj).2.1, fun j hj => (key j hj).2.2⟩
end
def del0 (p : Nat) : List Int := 1 :: List.replicate (p - 1) 0
def plI (p : Nat) (S : Nat → Wt) : Nat → List (List Int)
 | 0 => [del0 p]
 | i + 1 => nxI p (S i) (List.replicate p 0) (plI p S i)
def supP (p f : Nat) : Nat → Wt := fun i => sup p f (pwY p f i)
theorem plI_el {p f : Nat} (hp : 2 ≤ p) : ∀ i, i ≤ (q0f p f).length → ElL p (plS (phiP p) (q0f p f) i) (plI p (supP p f) i)
 | 0, _ => by
  refine ⟨rfl, fun j hj => ?_, fun j hj => ?_, fun j hj => ?_⟩
  all_goals
   have hj0 : j = 0 := by simp [plS] at hj; omega
   subst hj0
  ·intro k
   show qf [1] k = Ec p (ccf (del0 p)) k
   have e : ∀ k, (del0 p).getD (k + 1) 0 = 0 := fun k => by
    unfold del0
    rw [List.getD_cons_succ, List.getD_eq_getElem?_getD, List.getElem?_replicate]; split <;> rfl
   unfold Ec ccf
   obtain ⟨q, rfl⟩ : ∃ q, p = q + 2 := ⟨p - 2, by omega⟩
   rw [show q + 2 - 1 = q + 1 by omega, e q]
   cases k with
   | zero =>
    rw [if_pos (by omega)]
    show (1 : Rat) = ((1 : Int) : Rat) - ((0 : Int) : Rat)
    decide +kernel
   | succ k =>
    rw [e k, q2a (by simp)]
    split <;> grind
  ·show (del0 p).length = p
   unfold del0; simp; omega
  ·show ([1] : List Rat).length ≤ p - 1
   simp; omega
 | i + 1, hi => by
  have hl := q5q p f
  rw [plS, plI, w4j (by omega)]
  exact (plI_el hp i (by omega)).next hp
def bndL (a : List Int) : Bool := a.all fun x => decide (x.natAbs ≤ 2 ^ 60)
theorem bnd_get {a : List Int} (h : bndL a = true) (k : Nat) : (a.getD k 0).natAbs ≤ 2 ^ 60 := by
 rw [List.getD_eq_getElem?_getD]
 by_cases hk : k < a.length
 ·rw [List.getElem?_eq_getElem hk]
  exact of_decide_eq_true (List.all_eq_true.1 h _ (List.getElem_mem hk))
 ·rw [List.getElem?_eq_none (by omega)]; exact Nat.zero_le _
theorem El.int {p : Nat} {x : List Rat} {a : List Int} (h : El p x a) (hb : bndL a = true) (k : Nat) : ∃ z : Int, qf x k = ((z : Int) : Rat) ∧ z.natAbs ≤ 2 ^ 61 := by
 rw [h k]
 unfold Ec
 split
 ·refine ⟨a.getD k 0 - a.getD (p - 1) 0, by rw [Rat.intCast_sub]; rfl, ?_⟩
  have h1 := bnd_get hb k
  have h2 := bnd_get hb (p - 1)
  have h3 : (2 : Nat) ^ 61 = 2 ^ 60 + 2 ^ 60 := by decide
  omega
 ·exact ⟨0, rfl, Nat.zero_le _⟩
theorem El.okC {p : Nat} {x : List Rat} {a : List Int} (h : El p x a) (hb : bndL a = true) (hl : x.length ≤ 40) : okC x = true := by
 unfold Gx.okC lenC intC
 rw [decide_eq_true hl, Bool.and_true, List.all_eq_true]
 intro q hq
 obtain ⟨k, hk, rfl⟩ := List.mem_iff_getElem.1 hq
 obtain ⟨z, h1, h2⟩ := h.int hb k
 rw [q1y hk] at h1
 rw [h1]
 have : (2 : Nat) ^ 61 ≤ 2 ^ 100 := by decide
 simp only [Rat.den_intCast, Rat.num_intCast, decide_true, Bool.true_and, decide_eq_true_iff]
 exact decide_eq_true (Nat.le_trans h2 this)
def bndP (p f : Nat) : Bool := (List.range (q0f p f).length).all fun i => (plI p (supP p f) i).all fun a => bndL a && bndL (rotS p (supP p f i) a)
theorem nxOk_of {p f : Nat} (hc : pCkB (p : Int) (f : Int) = 0) (h : bndP p f = true) (i : Nat) (hi : i < (q0f p f).length) : NxOk (phiP p) (rw' (q0f p f) i) (plS (phiP p) (q0f p f) i) := by
 obtain ⟨hp, hf, _, hlt⟩ := q5s hc
 obtain ⟨hp2, hp23⟩ := q3a hp
 have hl := q5q p f
 have h1 := List.all_eq_true.1 h i (List.mem_range.2 hi)
 rw [List.all_eq_true] at h1
 have he := plI_el (f := f) hp2 i (by omega)
 have hel := he.len
 generalize hP : plS (phiP p) (q0f p f) i = P at *
 generalize hA : plI p (supP p f) i = A at *
 have hb : ∀ j, j < P.length → bndL (A.getD j []) = true ∧ bndL (rotS p (supP p f i) (A.getD j [])) = true := fun j hj => by
  have := h1 (A.getD j []) (by rw [List.getD_eq_getElem?_getD, List.getElem?_eq_getElem (by omega)]; exact List.getElem_mem _)
  rw [Bool.and_eq_true] at this
  exact this
 have hx := per_elm hp f (pwY p f i)
 rw [w4j (by omega)]
 have hxo : okC (perL p f (pwY p f i)) = true := by
  unfold okC lenC
  rw [decide_eq_true (by have := hx.l; omega), Bool.and_true]
  unfold intC
  rw [List.all_eq_true]
  intro q hq
  obtain ⟨k, hk, rfl⟩ := List.mem_iff_getElem.1 hq
  have := hx.b k
  rw [q1y hk] at this
  rw [decide_eq_true this.d, decide_eq_true this.n]; rfl
 refine .of hp hxo ?_
 unfold nxC
 rw [List.all_eq_true]
 intro k hk
 have hk := List.mem_range.1 hk
 obtain ⟨b1, b2⟩ := hb k hk
 obtain ⟨m1, m2⟩ := he.mul (f := f) (y := pwY p f i) hp2 hk
 obtain ⟨e1, e2, e3⟩ := he.nxE (j := k) (by omega)
 have hs := he.s k hk
 have eb : bndL ((List.replicate p 0 :: A).getD k []) = true := by
  cases k with
  | zero =>
   show bndL (List.replicate p 0) = true
   unfold bndL
   rw [List.all_eq_true]
   intro x hx
   rw [List.eq_of_mem_replicate hx]; decide
  | succ k => rw [List.getD_cons_succ]; exact (hb k (by omega)).1
 have q1 : okC (rw' P k) = true := (he.el k hk).okC b1 (by omega)
 have q2 : okC (rw' (nxS (phiP p) (perL p f (pwY p f i)) P k) (k + 1)) = true := by
  rw [nxS_get _ _ _ _ (by omega), if_neg (by omega), if_neg (by omega)]; rfl
 have q3 : okC (rw' (nxA (nxS (phiP p) (perL p f (pwY p f i)) P k) P k) k) = true := by
  unfold nxA
  rw [q5y _ _ _ _ (by rw [w0o]; omega), if_neg (by omega), nxS_get _ _ _ _ (by omega), if_neg (by omega), if_pos rfl]
  exact e1.okC eb (by omega)
 have q4 : okC (pMod (pMul (rw' P k) (perL p f (pwY p f i))) (phiP p)) = true := m1.okC b2 (by omega)
 rw [q1, q2, q3, q4]; rfl
def polyI (p f : Nat) : List Int := (plI p (supP p f) (q0f p f).length).map fun a => a.getD 0 0 - a.getD (p - 1) 0
theorem polyL_I {p f : Nat} (hp : 2 ≤ p) : polyL p f = (polyI p f).map fun z => ((z : Int) : Rat) := by
 have he := plI_el (f := f) hp (q0f p f).length (Nat.le_refl _)
 have hl := he.len
 unfold polyL polyI
 rw [List.map_map]
 refine List.ext_getElem (by rw [List.length_map, List.length_map, hl]) fun j h1 h2 => ?_
 rw [List.length_map] at h1
 rw [List.getElem_map, List.getElem_map, ← q1o h1, he.el j h1 0]
 have e : (plI p (supP p f) (q0f p f).length)[j]'(by omega) = (plI p (supP p f) (q0f p f).length).getD j [] := by
  rw [List.getD_eq_getElem?_getD, List.getElem?_eq_getElem (by omega)]; rfl
 unfold Ec ccf
 simp only [Function.comp]
 rw [if_pos (by omega), e, Rat.intCast_sub]
theorem w0d (G : Nat → Rat) : ∀ n, sumQ G n = A.sm G n
 | 0 => rfl
 | n + 1 => by rw [sumQ, A.sm, w0d G n]
theorem q4q {p x y : Nat} (hx : x < p) (hy : y < p) : (x + (p - y)) % p = if y ≤ x then x - y else x + p - y := by
 by_cases h : y ≤ x
 ·rw [if_pos h, show x + (p - y) = (x - y) + p by omega, Nat.add_mod_right, Nat.mod_eq_of_lt (by omega)]
 ·rw [if_neg h, show x + (p - y) = x + p - y by omega, Nat.mod_eq_of_lt (by omega)]
theorem fwd_mod {p x y : Nat} (hx : x < p) (hy : y < p) : (x + y) % p = if x + y < p then x + y else x + y - p := by
 by_cases h : x + y < p
 ·rw [if_pos h, Nat.mod_eq_of_lt h]
 ·rw [if_neg h, show x + y = (x + y - p) + p by omega, Nat.add_mod_right, Nat.mod_eq_of_lt (by omega)]; omega
theorem sm_turn1 (G : Nat → Rat) : ∀ p, A.sm (fun l => G ((l + 1) % p)) p = A.sm G p
 | 0 => rfl
 | q + 1 => by
  rw [A.sm_front G q, A.sm]
  rw [show (q + 1) % (q + 1) = 0 from Nat.mod_self _]
  rw [A.sm_congr (F := fun i => G (i + 1)) fun i hi => by rw [Nat.mod_eq_of_lt (by omega)]]
  grind
theorem sm_turn (G : Nat → Rat) (p : Nat) : ∀ a, A.sm (fun l => G ((l + a) % p)) p = A.sm (fun l => G (l % p)) p
 | 0 => rfl
 | a + 1 => by
  rw [← sm_turn G p a, ← sm_turn1 (fun l => G ((l + a) % p)) p]
  exact A.sm_congr fun l _ => by
   show _ = G (((l + 1) % p + a) % p)
   rw [Nat.mod_add_mod, show l + (a + 1) = l + 1 + a by omega]
theorem sm_mod (G : Nat → Rat) (p : Nat) : A.sm (fun l => G (l % p)) p = A.sm G p := A.sm_congr fun l hl => by rw [Nat.mod_eq_of_lt hl]
theorem sm_back (G : Nat → Rat) {p j : Nat} (hj : j < p) : A.sm (fun l => G ((j + (p - l)) % p)) p = A.sm G p := by
 rw [A.sm_rev, ← sm_mod G p, ← sm_turn G p (j + 1)]
 exact A.sm_congr fun l hl => by rw [show j + (p - (p - 1 - l)) = l + (j + 1) by omega]
def CM (p : Nat) (T : Nat → Rat) (i j : Nat) : Rat := T ((j + (p - i)) % p) - T ((p - 1 + (p - i)) % p)
theorem CM_last {p : Nat} (T : Nat → Rat) (i : Nat) : CM p T i (p - 1) = 0 := by unfold CM; grind
theorem cm_mul {p : Nat} (C T : Nat → Rat) {i j : Nat} (hi : i < p) (hj : j < p) : mulE (CM p C) (CM p T) (p - 1) i j = CM p (cyc p C T) i j := by
 have hp : 0 < p := by omega
 have key : ∀ m, m < p → A.sm (fun l => T ((m + (p - l)) % p) * C ((l + (p - i)) % p)) p = cyc p C T ((m + (p - i)) % p) := fun m hm => by
  rw [← sm_mod (fun l => T ((m + (p - l)) % p) * C ((l + (p - i)) % p)) p, ← sm_turn (fun l => T ((m + (p - l)) % p) * C ((l + (p - i)) % p)) p i]
  unfold cyc
  refine A.sm_congr fun h hh => ?_
  have e1 : ((h + i) % p + (p - i)) % p = h := by
   rw [Nat.mod_add_mod, show h + i + (p - i) = h + p by omega, Nat.add_mod_right, Nat.mod_eq_of_lt hh]
  have e2 : (m + (p - (h + i) % p)) % p = ((m + (p - i)) % p + (p - h)) % p := by
   have a1 := fwd_mod hh hi
   have a2 := q4q hm hi
   have l1 := Nat.mod_lt (h + i) hp
   have l2 := Nat.mod_lt (m + (p - i)) hp
   rw [q4q hm l1, q4q l2 hh, a1, a2]
   split <;> split <;> (try split) <;> (try split) <;> omega
  rw [e1, e2]; grind
 have e0 : mulE (CM p C) (CM p T) (p - 1) i j = A.sm (fun l => CM p T l j * CM p C i l) p := by
  unfold mulE
  rw [w0d]
  obtain ⟨q, rfl⟩ : ∃ q, p = q + 1 := ⟨p - 1, by omega⟩
  have h1 := CM_last (p := q + 1) C i
  simp only [Nat.add_sub_cancel] at h1 ⊢
  rw [A.sm, h1]; grind
 rw [e0]
 have e3 : A.sm (fun l => CM p T l j * CM p C i l) p = A.sm (fun l => T ((j + (p - l)) % p) * C ((l + (p - i)) % p)) p - A.sm (fun l => T ((p - 1 + (p - l)) % p) * C ((l + (p - i)) % p)) p - C ((p - 1 + (p - i)) % p) * (A.sm (fun l => T ((j + (p - l)) % p)) p - A.sm (fun l => T ((p - 1 + (p - l)) % p)) p) := by
  rw [← A.sm_sub, ← A.sm_sub, ← A.sm_mul, ← A.sm_sub]
  exact A.sm_congr fun l _ => by unfold CM; grind
 rw [e3, key j hj, key (p - 1) (by omega), sm_back T hj, sm_back T (by omega)]
 unfold CM; grind
theorem cm_id {p i j : Nat} (hi : i < p - 1) (hj : j < p - 1) (T : Nat → Rat) (c : Rat) : CM p T i j + (if i = j then 1 else 0) * c = CM p (fun k => T k + if k = 0 then c else 0) i j := by
 unfold CM
 have a1 := q4q (p := p) (x := j) (y := i) (by omega) (by omega)
 have a2 := q4q (p := p) (x := p - 1) (y := i) (by omega) (by omega)
 rw [if_pos (by omega)] at a2
 have h2 : ¬ (p - 1 + (p - i)) % p = 0 := by rw [a2]; omega
 simp only [if_neg h2]
 by_cases h : i = j
 ·have h1 : (j + (p - i)) % p = 0 := by rw [a1, if_pos (by omega)]; omega
  rw [if_pos h, if_pos h1]; grind
 ·have h1 : ¬ (j + (p - i)) % p = 0 := by rw [a1]; split <;> omega
  rw [if_neg h, if_neg h1]; grind
theorem cm_trace {p : Nat} (hp : 0 < p) (U : Nat → Rat) : sumQ (fun i => CM p U i i) (p - 1) = ((p : Nat) : Int) * U 0 - A.sm U p := by
 rw [w0d]
 have e1 : A.sm (fun i => CM p U i i) (p - 1) = A.sm (fun i => U 0 - U (p - 1 - i)) (p - 1) := A.sm_congr fun i hi => by
  unfold CM
  rw [q4q (by omega) (by omega), q4q (by omega) (by omega), if_pos (Nat.le_refl _), if_pos (by omega), Nat.sub_self]
 have e2 : A.sm (fun i => U 0 - U (p - 1 - i)) (p - 1) = A.sm (fun i => U 0 - U (p - 1 - i)) p := by
  obtain ⟨q, rfl⟩ : ∃ q, p = q + 1 := ⟨p - 1, by omega⟩
  simp only [Nat.add_sub_cancel]
  rw [A.sm, Nat.sub_self]; grind
 have e3 : ∀ n, A.sm (fun _ => U 0) n = ((n : Nat) : Int) * U 0 := fun n => by
  induction n with
  | zero => show (0 : Rat) = _; simp [Rat.zero_mul]
  | succ n ih => rw [A.sm, ih]; push_cast; grind
 rw [e1, e2, A.sm_sub, e3, ← A.sm_rev]
theorem CM_congr {p i j : Nat} {T U : Nat → Rat} (hp : 0 < p) (h : ∀ k, k < p → T k = U k) : CM p T i j = CM p U i j := by
 unfold CM
 rw [h _ (Nat.mod_lt _ hp), h _ (Nat.mod_lt _ hp)]
abbrev prCf (p f : Nat) (y : Int) : Nat → Rat := fun k => ((perT p f y k : Int) : Rat)
theorem cyc_del {p i k : Nat} (C : Nat → Rat) (hi : i < p) (hk : k < p) : cyc p C (fun l => if l = i then 1 else 0) k = C ((k + (p - i)) % p) := by
 have hp : 0 < p := by omega
 unfold cyc
 have l1 := Nat.mod_lt (k + (p - i)) hp
 have a1 := q4q hk hi
 rw [A.sm_one _ p ((k + (p - i)) % p) l1 fun l hl hne => ?_]
 ·have : (k + (p - (k + (p - i)) % p)) % p = i := by
   rw [q4q hk l1, a1]; split <;> (try split) <;> omega
  simp only [this, if_true]; grind
 ·have : ¬ (k + (p - l)) % p = i := by
   rw [q4q hk hl]
   rw [a1] at hne
   split <;> split at hne <;> omega
  simp only [this, if_false]; grind
theorem mono_ec {p i : Nat} (hi : i < p) (k : Nat) : qf (pMod (q3y 1 i) (phiP p)) k = Ec p (fun l => if l = i then 1 else 0) k := by
 refine Cg.uniq (by omega) ((Cg.of fun k => ?_).trans (Cg.red (by omega) fun l => if l = i then 1 else 0)) (Ec_below p _) k
 rw [qf_pMono]
 unfold Zc
 by_cases h : k < p
 ·rw [if_pos h]
 ·rw [if_neg h, if_neg (by omega)]
theorem matE_cm {p f : Nat} {y : Int} {i j : Nat} (hi : i < p - 1) (hj : j < p - 1) : matE (phiP p) (perL p f y) i j = CM p (prCf p f y) i j := by
 unfold matE pMulM
 rw [q8y, mulM_cyc (by omega) (qf_sum p _) (mono_ec (by omega)) j]
 unfold Ec CM
 rw [if_pos hj, cyc_del _ (by omega) (by omega), cyc_del _ (by omega) (by omega)]
def addZ (u : List Int) (c : Int) : List Int := (u.getD 0 0 + c) :: u.drop 1
theorem addZ_get (u : List Int) (c : Int) (k : Nat) : (addZ u c).getD k 0 = u.getD k 0 + if k = 0 then c else 0 := by
 unfold addZ
 cases k with
 | zero => rfl
 | succ k =>
  rw [List.getD_cons_succ, if_neg (by omega)]
  simp only [List.getD_eq_getElem?_getD, List.getElem?_drop]
  rw [show 1 + k = k + 1 by omega]; omega
def trN (p : Nat) (u : List Int) : Int := (p : Int) * u.getD 0 0 - isum (fun i => u.getD i 0) p
def flEnd (p k : Nat) (t u : List Int) : (List Int × List Int) × Int := ((t, u), -(trN p u / ((k + 1 : Nat) : Int)))
def flMk (p : Nat) (S : Wt) (k : Nat) (t : List Int) : (List Int × List Int) × Int := flEnd p k t (rotS p S t)
def flI (p : Nat) (S : Wt) : Nat → (List Int × List Int) × Int
 | 0 => ((List.replicate p 0, rotS p S (List.replicate p 0)), 1)
 | k + 1 => flMk p S k (addZ (flI p S k).1.2 (flI p S k).2)
theorem flI_u (p : Nat) (S : Wt) : ∀ k, (flI p S k).1.2 = rotS p S (flI p S k).1.1
 | 0 => rfl
 | _ + 1 => rfl
def bnd2 (a : List Int) : Bool := a.all fun x => decide (x.natAbs ≤ 2 ^ 110)
theorem bnd2_get {a : List Int} (h : bnd2 a = true) (k : Nat) : (a.getD k 0).natAbs ≤ 2 ^ 110 := by
 rw [List.getD_eq_getElem?_getD]
 by_cases hk : k < a.length
 ·rw [List.getElem?_eq_getElem hk]
  exact of_decide_eq_true (List.all_eq_true.1 h _ (List.getElem_mem hk))
 ·rw [List.getElem?_eq_none (by omega)]; exact Nat.zero_le _
def ckFl (p k : Nat) (s : (List Int × List Int) × Int) : Bool := decide (trN p s.1.2 % (k : Int) = 0) && (bnd2 s.1.1 && (bnd2 s.1.2 && decide (s.2.natAbs ≤ 2 ^ 110)))
def flB (p f : Nat) : Bool := (List.range p).all fun k => ckFl p k (flI p (sup p f 1) k)
theorem mulE_congr {E F E' F' : Nat → Nat → Rat} {n i j : Nat} (h1 : ∀ l, l < n → E i l = E' i l) (h2 : ∀ l, l < n → F l j = F' l j) : mulE E F n i j = mulE E' F' n i j := by
 unfold mulE
 rw [w0d, w0d]
 exact A.sm_congr fun l hl => by rw [h1 l hl, h2 l hl]
section
variable {p f : Nat} (hc : pCkB (p : Int) (f : Int) = 0)
theorem ccf_rot (a : List Int) {k : Nat} (hk : k < p) : ccf (rotS p (sup p f 1) a) k = cyc p (prCf p f 1) (ccf a) k := rotS_cyc a hk
theorem mul_cm {S : Nat → Nat → Rat} {t : List Int} {n i j : Nat} (hn : n = p - 1) (hS : ∀ i j, i < n → j < n → S i j = CM p (ccf t) i j) (hi : i < n) (hj : j < n) :
  mulE (matE (phiP p) (perL p f 1)) S n i j = CM p (ccf (rotS p (sup p f 1) t)) i j := by
 subst hn
 rw [mulE_congr (E' := CM p (prCf p f 1)) (F' := CM p (ccf t)) (fun l hl => matE_cm hi hl) (fun l hl => hS l j hl hj), cm_mul _ _ (by omega) (by omega)]
 exact CM_congr (by omega) fun k hk => (ccf_rot t hk).symm
theorem fl_inv {n : Nat} (hn : n = p - 1) (h2 : 2 ≤ p) (hB : ∀ k, 0 < k → k ≤ n → trN p (flI p (sup p f 1) k).1.2 % (k : Int) = 0) : ∀ k, k ≤ n →
  (∀ i j, i < n → j < n → flS (matE (phiP p) (perL p f 1)) n k i j = CM p (ccf (flI p (sup p f 1) k).1.1) i j) ∧ flC (matE (phiP p) (perL p f 1)) n k = (((flI p (sup p f 1) k).2 : Int) : Rat)
 | 0, _ => by
  refine ⟨fun i j _ _ => ?_, rfl⟩
  show (0 : Rat) = CM p (ccf (List.replicate p 0)) i j
  have : ∀ k, ccf (List.replicate p 0) k = 0 := fun k => by
   show (((List.replicate p (0 : Int)).getD k 0 : Int) : Rat) = 0
   rw [List.getD_eq_getElem?_getD, List.getElem?_replicate]; split <;> rfl
  unfold CM
  rw [this, this]; grind
 | k + 1, hk => by
  obtain ⟨h1, h3⟩ := fl_inv hn h2 hB k (by omega)
  have hs : ∀ i j, i < n → j < n → flS (matE (phiP p) (perL p f 1)) n (k + 1) i j = CM p (ccf (flI p (sup p f 1) (k + 1)).1.1) i j := fun i j hi hj => by
   rw [flS_succ]
   simp only
   rw [mul_cm hn h1 hi hj, h3, cm_id (by omega) (by omega)]
   refine CM_congr (by omega) fun l _ => ?_
   show _ = (((addZ (flI p (sup p f 1) k).1.2 (flI p (sup p f 1) k).2).getD l 0 : Int) : Rat)
   rw [addZ_get, flI_u, Rat.intCast_add]
   unfold ccf
   congr 1
   split <;> rfl
  refine ⟨hs, ?_⟩
  rw [flC_succ]
  have e1 : sumQ (fun i => mulE (matE (phiP p) (perL p f 1)) (flS (matE (phiP p) (perL p f 1)) n (k + 1)) n i i) n = sumQ (fun i => CM p (ccf (flI p (sup p f 1) (k + 1)).1.2) i i) (p - 1) := by
   rw [w0d, w0d, ← hn]
   exact A.sm_congr fun i hi => by rw [mul_cm hn hs hi hi, flI_u]
  have e2 : sumQ (fun i => CM p (ccf (flI p (sup p f 1) (k + 1)).1.2) i i) (p - 1) = ((trN p (flI p (sup p f 1) (k + 1)).1.2 : Int) : Rat) := by
   rw [cm_trace (by omega)]
   unfold trN
   rw [Rat.intCast_sub, Rat.intCast_mul, isum_sm]
   rfl
  have hd := hB (k + 1) (by omega) hk
  rw [e1, e2]
  obtain ⟨q, hq⟩ := Int.dvd_of_emod_eq_zero hd
  have e3 : (flI p (sup p f 1) (k + 1)).2 = -q := by
   show -(trN p (flI p (sup p f 1) (k + 1)).1.2 / ((k + 1 : Nat) : Int)) = -q
   rw [hq, Int.mul_ediv_cancel_left _ (by omega)]
  rw [e3, hq, Rat.intCast_mul, Rat.intCast_neg]
  have hne : (((k + 1 : Nat) : Int) : Rat) ≠ 0 := fun h => by
   have := Rat.intCast_inj.1 (h.trans (Rat.intCast_zero).symm)
   omega
  congr 1
  rw [Rat.div_def, Rat.mul_comm (((k + 1 : Nat) : Int) : Rat), Rat.mul_assoc, Rat.mul_inv_cancel _ hne, Rat.mul_one]
end
theorem sumQ_int {b n : Nat} {F : Nat → Rat} (h : ∀ i, i < n → IntB b (F i)) : ∀ i, i ≤ n → IntB (i * b) (sumQ F i)
 | 0, _ => .zero
 | i + 1, hi => by
  rw [sumQ, Nat.succ_mul]
  exact (sumQ_int h i (by omega)).add (h i (by omega))
theorem ccf_int {a : List Int} (h : bnd2 a = true) (k : Nat) : IntB (2 ^ 110) (ccf a k) := .of (bnd2_get h k)
theorem cm_int {p b : Nat} {T : Nat → Rat} (h : ∀ k, IntB b (T k)) (i j : Nat) : IntB (2 * b) (CM p T i j) := by
 unfold CM
 rw [Nat.two_mul]
 exact (h _).sub (h _)
section
variable {p f : Nat}
theorem flB_get (h : flB p f = true) {k : Nat} (hk : k < p) : ckFl p k (flI p (sup p f 1) k) = true := List.all_eq_true.1 h k (List.mem_range.2 hk)
theorem flB_ok (h : flB p f = true) {k : Nat} (hk : k < p) : trN p (flI p (sup p f 1) k).1.2 % (k : Int) = 0 ∧ bnd2 (flI p (sup p f 1) k).1.1 = true ∧ bnd2 (flI p (sup p f 1) k).1.2 = true ∧ (flI p (sup p f 1) k).2.natAbs ≤ 2 ^ 110 := by
 have := flB_get h hk
 unfold ckFl at this
 simp only [Bool.and_eq_true, decide_eq_true_iff] at this
 exact this
theorem flOk_of {n : Nat} (hn : n = p - 1) (h2 : 2 ≤ p) (h23 : p ≤ 23) (h : flB p f = true) : FlOk (matE (phiP p) (perL p f 1)) n := by
 have inv := fl_inv (f := f) hn h2 fun k _ hk => (flB_ok h (show k < p by omega)).1
 have eE : ∀ i j, i < n → j < n → IntB 2000 (matE (phiP p) (perL p f 1) i j) := fun i j hi hj => by
  rw [matE_cm (by omega) (by omega)]
  exact (cm_int (b := 1000) (fun k => .of (by have := perT_le p f 1 k; omega)) i j).mono (by decide)
 have eS : ∀ k i j, k ≤ n → i < n → j < n → IntB (2 ^ 111) (flS (matE (phiP p) (perL p f 1)) n k i j) := fun k i j hk hi hj => by
  rw [(inv k hk).1 i j hi hj]
  exact (cm_int (ccf_int (flB_ok h (show k < p by omega)).2.1) i j).mono (by decide)
 have eM : ∀ k i j, k ≤ n → i < n → j < n → IntB (2 ^ 111) (mulE (matE (phiP p) (perL p f 1)) (flS (matE (phiP p) (perL p f 1)) n k) n i j) := fun k i j hk hi hj => by
  rw [mul_cm hn (inv k hk).1 hi hj, ← flI_u]
  exact (cm_int (ccf_int (flB_ok h (show k < p by omega)).2.2.1) i j).mono (by decide)
 have eC : ∀ k, k ≤ n → IntB (2 ^ 110) (flC (matE (phiP p) (perL p f 1)) n k) := fun k hk => by
  rw [(inv k hk).2]
  exact .of (flB_ok h (show k < p by omega)).2.2.2
 have b1 : 2000 < BB := q2p (k := 11) (by decide) (by decide)
 have b2 : 2 ^ 111 < BB := q2p (k := 111) (Nat.le_refl _) (by decide)
 have b3 : 2 ^ 111 * 2000 < BB := q2p (k := 122) (by decide) (by decide)
 have b4 : 23 * (2 ^ 111 * 2000) < BB := q2p (k := 130) (by decide) (by decide)
 have b5 : 2 ^ 110 < BB := q2p (k := 110) (Nat.le_refl _) (by decide)
 have b6 : 23 * 2 ^ 111 < BB := q2p (k := 120) (by decide) (by decide)
 refine ⟨fun k hk => ⟨fun i l hi hl => (eE i l hi hl).sz b1, fun l j hl hj => (eS k l j hk hl hj).sz b2, fun i l j hi hl hj => ((eS k l j hk hl hj).mul (eE i l hi hl)).sz b3, fun i l j hi hl hj => ?_⟩, fun k i j hk hi hj => (eM k i j hk hi hj).sz b2, fun k hk => (eC k hk).sz b5, fun k i j hk hi hj => ?_, fun k i hk hi => ?_⟩
 ·have := sumQ_int (n := n) (b := 2 ^ 111 * 2000) (F := fun l => flS (matE (phiP p) (perL p f 1)) n k l j * matE (phiP p) (perL p f 1) i l) (fun l hl => (eS k l j hk hl hj).mul (eE i l hi hl)) l (by omega)
  exact (this.mono (Nat.mul_le_mul_right _ (show l ≤ 23 by omega))).sz b4
 ·split
  ·rw [Rat.one_mul]; exact (eC k hk).sz b5
  ·rw [Rat.zero_mul]; exact sz_zero
 ·have := sumQ_int (n := n) (b := 2 ^ 111) (F := fun l => mulE (matE (phiP p) (perL p f 1)) (flS (matE (phiP p) (perL p f 1)) n k) n l l) (fun l hl => eM k l l hk hl hl) i hi
  exact (this.mono (Nat.mul_le_mul_right _ (show i ≤ 23 by omega))).sz b6
theorem matOk_of (hp : p ∈ P9) : MatOk (phiP p) (perL p f 1) := by
 obtain ⟨hp2, hp23⟩ := q3a hp
 have hl := q1q p
 have hpe := (per_elm hp f 1).l
 have hpi : IntL 2000 (perL p f 1) := by rw [q8y]; exact w4b hp2 fun k _ => perT_le p f 1 k
 refine ⟨fun i hi => ?_, fun i hi => ?_⟩
 ·refine ⟨(q4m p).szL (q2p (k := 1) (by decide) (by decide)), ?_⟩
  have h1 := q7j (q3y 1 i)
  have h2 := q6c 1 i
  rw [DvOkL, if_neg (by omega)]
  trivial
 ·have hr := q7w (r := i) hp
  exact (mulM_int hp hpi (q7x hp (by omega)) (by omega) (by have := hr.1; unfold w0e at this; omega) (q2p (k := 100) (by decide) (by decide))).2.1
end
def chI (p f : Nat) : List Int := (List.range p).map fun i => (flI p (sup p f 1) (p - 1 - i)).2
def ratL (l : List Int) : List Rat := l.map fun z => ((z : Int) : Rat)
theorem refCh_I {p f : Nat} (hc : pCkB (p : Int) (f : Int) = 0) (h : flB p f = true) : refCh p f = ratL (chI p f) := by
 obtain ⟨hp, hf, _, hlt⟩ := q5s hc
 obtain ⟨hp2, hp23⟩ := q3a hp
 have inv := fl_inv (f := f) (n := p - 1) rfl hp2 fun k _ hk => (flB_ok h (show k < p by omega)).1
 have e1 : perR p f 1 = perL p f 1 := by
  have := perLR hc 1
  rw [Int.emod_eq_of_lt (by omega) (by omega)] at this
  exact this.symm
 unfold refCh ratL chI
 rw [e1, List.map_map]
 refine List.ext_getElem (by rw [q6h]; simp; omega) fun i h1 h2 => ?_
 rw [q6h] at h1
 rw [flL_get, List.getElem_map, List.getElem_range, if_pos (by omega)]
 exact (inv (p - 1 - i) (by omega)).2
def smL (f : List Rat) : Bool := f.all smB && decide (f.length ≤ 100)
theorem smL_sm {f : List Rat} (h : smL f = true) (i : Nat) : Sm 100 (qf f i) := by
 unfold smL at h
 rw [Bool.and_eq_true] at h
 by_cases hi : i < f.length
 ·rw [q1y hi]; exact smB_sm (List.all_eq_true.1 h.1 _ (List.getElem_mem hi))
 ·rw [q2a (by omega)]; exact sm_zero.mono (by decide)
theorem smL_len {f : List Rat} (h : smL f = true) : f.length ≤ 100 := by
 unfold smL at h
 rw [Bool.and_eq_true, decide_eq_true_iff] at h
 exact h.2
theorem q7u {f : List Rat} (h : smL f = true) : SzL f := fun x hx => by
 obtain ⟨i, hi, rfl⟩ := List.mem_iff_getElem.1 hx
 rw [← q1y hi]; exact (smL_sm h i).mono (by decide)
theorem w1m {f g : List Rat} (hf : smL f = true) (hg : smL g = true) (k : Nat) : ∀ i, Sm (201 * i + 1) (q2b f g k i)
 | 0 => sm_zero
 | i + 1 => by
  rw [q2b]
  split
  ·exact (sm_add (w1m hf hg k i) (sm_mul (smL_sm hf _) (smL_sm hg _))).mono (by omega)
  ·exact (w1m hf hg k i).mono (by omega)
theorem mulOk_sm {f g : List Rat} (hf : smL f = true) (hg : smL g = true) : MulOk f g := by
 refine ⟨q7u hf, q7u hg, fun i j => (sm_mul (smL_sm hf i) (smL_sm hg j)).mono (by decide), fun k i => ?_⟩
 have hl := smL_len hf
 by_cases hi : i ≤ f.length
 ·exact (w1m hf hg k i).mono (by omega)
 ·rw [mulTo_cap f g k i (by omega)]
  exact (w1m hf hg k f.length).mono (by omega)
def dvB (g : List Rat) : Nat → List Rat → List Rat → Bool
 | 0, _, _ => true
 | n + 1, q, r => if g.length ≤ r.length then smL q && (smL r && (smL (dvM g r) && (smL (pMul (dvM g r) g) && dvB g n (pAdd q (dvM g r)) (pSub r (pMul (dvM g r) g))))) else true
theorem dvB_ok {g : List Rat} (hg : smL g = true) : ∀ (n : Nat) (q r : List Rat), dvB g n q r = true → DvOkL g n q r
 | 0, _, _, _ => trivial
 | n + 1, q, r, h => by
  rw [dvB] at h
  rw [DvOkL]
  split
  ·rename_i hl
   rw [if_pos hl] at h
   simp only [Bool.and_eq_true] at h
   exact ⟨q7u h.1, q7u h.2.1, q7u h.2.2.1, mulOk_sm h.2.2.1 hg, q7u h.2.2.2.1, dvB_ok hg n _ _ h.2.2.2.2⟩
  ·trivial
def dvC (f g : List Rat) : Bool := smL g && dvB g (f.length + 1) [] (trm f)
theorem dvC_ok {f g : List Rat} (h : dvC f g = true) : DvOk f g := by
 unfold dvC at h
 rw [Bool.and_eq_true] at h
 exact ⟨q7u h.1, dvB_ok h.1 _ _ _ h.2⟩
def gcB : Nat → List Rat → List Rat → Bool
 | 0, _, _ => true
 | n + 1, f, g => if g = [] then smL f else dvC f g && (smL (pMod f g) && gcB n g (q3v (pMod f g)))
theorem gcB_ok : ∀ (n : Nat) (f g : List Rat), gcB n f g = true → GcOkL n f g
 | 0, _, _, _ => trivial
 | n + 1, f, g, h => by
  rw [gcB] at h
  rw [GcOkL]
  split
  ·rename_i hg
   rw [if_pos hg] at h
   exact q7u h
  ·rename_i hg
   rw [if_neg hg] at h
   simp only [Bool.and_eq_true] at h
   exact ⟨dvC_ok h.1, q7u h.2.1, gcB_ok n _ _ h.2.2⟩
def radB (f : List Rat) : Bool := smL f && (gcB ((pDer f).length + 1) f (pDer f) && (dvC f (pGcd f (pDer f)) && smL (pDiv f (pGcd f (pDer f)))))
theorem radB_ok {f : List Rat} (h : radB f = true) : RadOk f := by
 unfold radB at h
 simp only [Bool.and_eq_true] at h
 exact ⟨q7u h.1, gcB_ok _ _ _ h.2.1, dvC_ok h.2.2.1, q7u h.2.2.2⟩
def polB (p f : Nat) : Bool := bndP p f && (flB p f && (decide (qf (ratL (chI p f)) (p - 1) ≠ 0) && (radB (ratL (chI p f)) && decide (pRad (ratL (chI p f)) = ratL (polyI p f)))))
theorem polB_ok {p f : Nat} (hc : pCkB (p : Int) (f : Int) = 0) (h : polB p f = true) : (∀ i, i < (q0f p f).length → NxOk (phiP p) (rw' (q0f p f) i) (plS (phiP p) (q0f p f) i)) ∧ RPolOk p f ∧ polyL p f = refPoly p f := by
 obtain ⟨hp, hf, _, hlt⟩ := q5s hc
 obtain ⟨hp2, hp23⟩ := q3a hp
 unfold polB at h
 simp only [Bool.and_eq_true, decide_eq_true_iff] at h
 obtain ⟨h1, h2, h3, h4, h5⟩ := h
 have hr := refCh_I hc h2
 have hl : (ratL (chI p f)).length = p := by unfold ratL chI; simp
 have e1 : perR p f 1 = perL p f 1 := by
  have := perLR hc 1
  rw [Int.emod_eq_of_lt (by omega) (by omega)] at this
  exact this.symm
 refine ⟨fun i hi => nxOk_of hc h1 i hi, ⟨?_, ?_, ?_, ?_, ?_, ?_, ?_⟩, ?_⟩
 ·rw [e1]; exact matOk_of hp
 ·rw [e1]; exact flOk_of rfl hp2 hp23 h2
 ·rw [hr]
  intro _
  rw [hl]; exact h3
 ·rw [hr, ← List.length_pos_iff, hl]; omega
 ·rw [hr, hl]; omega
 ·rw [hr]; exact radB_ok h4
 ·rw [e1]
  have := (per_elm hp f 1).l
  omega
 ·unfold refPoly
  rw [hr, h5]
  exact polyL_I hp2
end Gx
end
section
/- The polynomials of the periods, evaluated. -/
set_option autoImplicit false
namespace Gx
open Go Go.Proofs
set_option maxRecDepth 100000
set_option maxHeartbeats 0
def polD (p : Nat) : Bool := (List.range p).all fun f => !(decide (1 ≤ f) && decide ((p - 1) % f = 0)) || polB p f
theorem pol_2 : polD 2 = true := by decide +kernel
theorem pol_3 : polD 3 = true := by decide +kernel
theorem pol_5 : polD 5 = true := by decide +kernel
theorem pol_7 : polD 7 = true := by decide +kernel
theorem pol_11 : polD 11 = true := by decide +kernel
theorem pol_13 : polD 13 = true := by decide +kernel
theorem pol_17 : polD 17 = true := by decide +kernel
theorem pol_19 : polD 19 = true := by decide +kernel
theorem pol_23 : polD 23 = true := by decide +kernel
theorem pol_9 {p : Nat} (h : p ∈ P9) : polD p = true := by
 simp only [P9, List.mem_cons, List.not_mem_nil, or_false] at h
 rcases h with rfl | rfl | rfl | rfl | rfl | rfl | rfl | rfl | rfl
 ·exact pol_2
 ·exact pol_3
 ·exact pol_5
 ·exact pol_7
 ·exact pol_11
 ·exact pol_13
 ·exact pol_17
 ·exact pol_19
 ·exact pol_23
theorem pol_ok {p f : Nat} (h : pCkB (p : Int) (f : Int) = 0) : polB p f = true := by
 obtain ⟨hp, hf, hm, hlt⟩ := q5s h
 have := List.all_eq_true.1 (pol_9 hp) f (List.mem_range.2 hlt)
 rw [decide_eq_true hf, decide_eq_true hm] at this
 simp only [Bool.and_self, Bool.not_true, Bool.false_or] at this
 exact this
end Gx
end
section
/- The reference's Gauss sum; refusals of the program. -/
set_option autoImplicit false
namespace Gx
open Go Go.Proofs
set_option maxRecDepth 10000
def gsRL (p : Nat) : Nat → List Rat
 | 0 => []
 | a + 1 => pAdd (gsRL p a) (q6b (w0e p (a + 1)) ((legT p (a + 1) : Int) : Rat))
theorem gsRL_ok {p : Nat} (hp : p ∈ P9) : ∀ a, a < p → IntL (a * 1000) (gsRL p a) ∧ (gsRL p a).length ≤ p - 1
 | 0, _ => ⟨fun i => by rw [show gsRL p 0 = [] from rfl, q2a (Nat.zero_le _)]; exact .zero, Nat.zero_le _⟩
 | a + 1, h => by
  obtain ⟨h1, h2⟩ := gsRL_ok hp a (by omega)
  have hl := legT_le p (a + 1)
  have hr := q7w (r := a + 1) hp
  have hs := q6r (w0e p (a + 1)) ((legT p (a + 1) : Int) : Rat)
  have ha := w0n (gsRL p a) (q6b (w0e p (a + 1)) ((legT p (a + 1) : Int) : Rat))
  refine ⟨?_, by rw [gsRL]; omega⟩
  rw [gsRL]
  have := h1.add ((q7x hp (show a + 1 < p by omega)).scale (IntB.of (z := legT p (a + 1)) (b := 1000) (by omega)))
  exact this.mono (by omega)
theorem gs_ref : ∀ p ∈ P9, p ≠ 2 → gsRL p (p - 1) = gsL p := by decide +kernel
theorem w3k {p : Nat} (hp : p ∈ P9) (h2 : p ≠ 2) (H : Heap) : q0m 14 [.int .i64 (p : Int)] H (fun v H' => LV H' v (gsL p)) := by
 obtain ⟨hp2, hp23⟩ := q3a hp
 refine q1n (by decide) Tryz.func14 rfl ?_
 intro lk hlk
 simp -dsimp only [go_sem]
 refine q2g (m := fun (a : Nat) => p - a) (I := fun a σ H' => a < p ∧ Ext H H' ∧ (∃ v, LV H' v (gsRL p a) ∧ σ 3 = v) ∧ σ 0 = .int .i64 (p : Int) ∧ σ 4 = .int .i64 ((a + 1 : Nat) : Int)) 0 ⟨by omega, Ext.refl _, ⟨_, LV.nil, rfl⟩, rfl, rfl⟩ ?_
 rintro a σ H' ⟨h1, hE, ⟨v, hv, s3⟩, s0, s4⟩
 have lo := hE.le
 by_cases ha : a + 1 < p
 ·have f1 := ltI ha
  have e7 := q1m ha (by omega)
  have kl := fun lk H => r4_Leg hp h2 ha lk H
  have hl := legT_le p (a + 1)
  have kf := fun lk H => q3k lk H (legT p (a + 1)) ⟨by omega, by omega⟩
  simp -dsimp only [go_sem, s0, s3, s4, f1]
  refine ob_y (r47_Root hp ((a + 1 : Nat) : Int) H') (by omega) ?_
  rintro v1 H1 hE1 g1
  have l1 := hE1.le
  have em : (((a + 1 : Nat) : Int) % (p : Int)).toNat = a + 1 := by rw [Int.emod_eq_of_lt (by omega) (by omega)]; omega
  rw [em] at g1
  have hr := q7w (r := a + 1) hp
  have hri := q7x hp (show a + 1 < p by omega)
  simp -dsimp only [go_sem, s0, s4, kl, kf]
  refine ob_y (r6_Scale g1.lv (hri.szL (q2p (k := 1) (by decide) (by decide))) ((IntB.of (z := legT p (a + 1)) (b := 1000) (by omega)).sz (q2p (k := 10) (by decide) (by decide))) (by omega)) (by omega) ?_
  rintro v2 H2 hE2 g2
  have l2 := hE2.le
  obtain ⟨o1, o2⟩ := gsRL_ok hp a h1
  have hs := q6r (w0e p (a + 1)) ((legT p (a + 1) : Int) : Rat)
  simp -dsimp only [go_sem, s3]
  refine ob_y (r6_Add (hv.ext (hE1.trans hE2)) g2.lv (o1.szL (q2p (k := 20) (Nat.le_trans (Nat.mul_le_mul_right _ (show a ≤ 23 by omega)) (by decide)) (by decide))) ((hri.scale (IntB.of (z := legT p (a + 1)) (b := 1000) (by omega))).szL (q2p (k := 20) (by decide) (by decide))) (by omega) (by omega)) (by omega) ?_
  rintro v3 H3 hE3 g3
  have l3 := hE3.le
  simp -dsimp only [go_sem, s0, s4, e7]
  exact next (a + 1) (by show p - (a + 1) < p - a; omega) ⟨ha, hE.trans (hE1.trans (hE2.trans hE3)), ⟨_, g3.lv, rfl⟩, s0, rfl⟩
 ·have ha' : a + 1 = p := by omega
  have f1 : (((a + 1 : Nat) : Int) < (p : Int)) = False := eq_false (by omega)
  have hg := gs_ref p hp h2
  rw [show p - 1 = a by omega] at hg
  rw [hg] at hv
  simp -dsimp only [go_sem, s0, s3, s4, f1]
  exact ⟨hE, hv⟩
theorem p_PolyBad (H : Heap) (p f : Int) (h : pCkB p f ≠ 0) : q4k 9 [.int .i64 p, .int .i64 f] H (fun v _ => v = .tuple #[.slice none 0 0, .int .i64 (pCkB p f)]) := by
 refine yo_raw (by decide) Tryz.func9 rfl ?_
 intro lk hlk
 have kc := fun lk H' => q1g mdLe (q4e lk H' p f)
 simp -dsimp only [go_sem, kc, h]
 exact Ext.refl _
theorem p_TableBad (H : Heap) (p f : Int) (h : pCkB p f ≠ 0) : q4k 10 [.int .i64 p, .int .i64 f] H (fun v _ => v = .tuple #[.slice none 0 0, .int .i64 (pCkB p f)]) := by
 refine yo_raw (by decide) Tryz.func10 rfl ?_
 intro lk hlk
 have kc := fun lk H' => q1g mdLe (q4e lk H' p f)
 simp -dsimp only [go_sem, kc, h]
 exact Ext.refl _
end Gx
end
section
/- The periods are independent: checked by evaluation of both eliminations. -/
set_option autoImplicit false
namespace Gx
open Go Go.Proofs
set_option maxRecDepth 100000
set_option maxHeartbeats 0
def unD (p : Nat) : Bool := (List.range p).all fun f => !(decide (1 ≤ f) && decide ((p - 1) % f = 0)) || (unP (p - 1) (q0f p f) && unE (p - 1) (q0f p f))
theorem un_2 : unD 2 = true := by decide +kernel
theorem un_3 : unD 3 = true := by decide +kernel
theorem un_5 : unD 5 = true := by decide +kernel
theorem un_7 : unD 7 = true := by decide +kernel
theorem un_11 : unD 11 = true := by decide +kernel
theorem un_13 : unD 13 = true := by decide +kernel
theorem un_17 : unD 17 = true := by decide +kernel
theorem un_19 : unD 19 = true := by decide +kernel
theorem un_23 : unD 23 = true := by decide +kernel
theorem un_9 {p : Nat} (h : p ∈ P9) : unD p = true := by
 simp only [P9, List.mem_cons, List.not_mem_nil, or_false] at h
 rcases h with rfl | rfl | rfl | rfl | rfl | rfl | rfl | rfl | rfl
 ·exact un_2
 ·exact un_3
 ·exact un_5
 ·exact un_7
 ·exact un_11
 ·exact un_13
 ·exact un_17
 ·exact un_19
 ·exact un_23
theorem un_ok {p f : Nat} (h : pCkB (p : Int) (f : Int) = 0) : unP (p - 1) (q0f p f) = true ∧ unE (p - 1) (q0f p f) = true := by
 obtain ⟨hp, hf, hm, hlt⟩ := q5s h
 have := List.all_eq_true.1 (un_9 hp) f (List.mem_range.2 hlt)
 rw [decide_eq_true hf, decide_eq_true hm] at this
 simp only [Bool.and_self, Bool.not_true, Bool.false_or, Bool.and_eq_true] at this
 exact this
end Gx
end
section
/- The law PeriodTable. -/
set_option autoImplicit false
namespace Gx
open Go Go.Proofs
set_option maxRecDepth 10000
theorem prB_elm {p f i : Nat} (hc : pCkB (p : Int) (f : Int) = 0) (hi : i < (q0f p f).length) : Elm p (prB p f i) ∧ MulModOk (phiP p) (rw' (q0f p f) 0) (rw' (q0f p f) i) := by
 obtain ⟨hp, hf, _, hlt⟩ := q5s hc
 obtain ⟨hp2, hp23⟩ := q3a hp
 have hE : ∀ i, i < (q0f p f).length → IntL 2000 (rw' (q0f p f) i) ∧ (rw' (q0f p f) i).length ≤ 22 := fun i hi => by
  rw [w4j (by rw [q5q] at hi; exact hi)]
  exact ⟨by rw [q8y]; exact w4b hp2 fun k _ => perT_le p f _ k, by have := (per_elm hp f (pwY p f i)).l; omega⟩
 have h0 := hE 0 (by omega)
 have h1 := hE i hi
 have hM : IntL (22 * (2000 * 2000)) (pMul (rw' (q0f p f) 0) (rw' (q0f p f) i)) := (h0.1.mul h1.1).mono (Nat.mul_le_mul_right _ h0.2)
 have hml := q7a (rw' (q0f p f) 0) (rw' (q0f p f) i)
 have hl := q4n (f := pMul (rw' (q0f p f) 0) (rw' (q0f p f) i)) (q5p (p := p) (by omega)) (q3u p)
 rw [q1q] at hl
 refine ⟨⟨hl.2.2, by unfold prB; omega, (pMod_int hM (q4m p) (q8x (by omega))).2.mono ?_⟩, .int h0.1 h1.1 (q2p (k := 11) (by decide) (by decide)) (q2p (k := 11) (by decide) (by decide)) (q2p (k := 40) (Nat.le_trans (Nat.mul_le_mul_right _ (show (rw' (q0f p f) 0).length + 1 ≤ 23 by omega)) (by decide)) (by decide)), .int hM (q4m p) (q8x (by omega)) (q2p (k := 1) (by decide) (by decide)) (q2p (k := 200) ?_ (by decide))⟩
 ·exact Nat.le_trans (Nat.mul_le_mul_left _ (Nat.pow_le_pow_right (by decide) (show (pMul (rw' (q0f p f) 0) (rw' (q0f p f) i)).length + 1 ≤ 44 by omega))) (by decide)
 ·exact Nat.le_trans (Nat.mul_le_mul_left _ (Nat.pow_le_pow_right (by decide) (show (pMul (rw' (q0f p f) 0) (rw' (q0f p f) i)).length + 1 ≤ 60 by omega))) (by decide)
theorem express_len {n : Nat} {L : List (List Rat)} {x y : List Rat} (h : q3e n L x = some y) : y.length = L.length := by
 unfold q3e at h
 simp only at h
 split at h
 ·injection h with h
  rw [← h, q8g]
 ·cases h
theorem coef_sm {p f : Nat} (hc : pCkB (p : Int) (f : Int) = 0) {i : Nat} (hi : i < (q0f p f).length) (j : Nat) : Sm 1024 (qf (prB p f i) j) := (((prB_elm hc hi).1.b j).sm (k := 13) (by decide) (by decide)).mono (by decide)
theorem rtabOk {p f : Nat} (hc : pCkB (p : Int) (f : Int) = 0) : RTabOk p f ∧ TabOk p f ∧ w1i p f (q0f p f).length = tabL p f (q0f p f).length ∧ ∀ r ∈ tabL p f (q0f p f).length, r.length ≤ 1000000 := by
 obtain ⟨hp, hf, _, hlt⟩ := q5s hc
 obtain ⟨hp2, hp23⟩ := q3a hp
 have hps := q5q p f
 have hpd : (p - 1) / f ≤ p - 1 := Nat.div_le_self _ _
 obtain ⟨uP, uE⟩ := un_ok hc
 have uP' := uP
 unfold unP at uP'
 simp only [Bool.and_eq_true] at uP'
 have uE' := uE
 unfold unE at uE'
 simp only [Bool.and_eq_true] at uE'
 have hpe := fun i (hi : i < (q0f p f).length) => prB_elm hc hi
 have heq : ∀ i, refTR p f i = tabR p f i := fun i => by
  unfold refTR tabR
  rw [refCo_E, ← co_eq uP uE (by omega)]
  rfl
 have hlen : ∀ i, (tabR p f i).length ≤ 1000 := fun i => by
  unfold tabR
  cases h : q3e (p - 1) (q0f p f) (pMod (pMul (rw' (q0f p f) 0) (rw' (q0f p f) i)) (phiP p)) with
  | none => simp
  | some y => rw [Option.getD_some, express_len h]; omega
 have hE : ∀ i, i < (q0f p f).length → IntL 2000 (rw' (q0f p f) i) ∧ (rw' (q0f p f) i).length ≤ 22 := fun i hi => by
  rw [w4j (by omega)]
  have := (per_elm hp f (pwY p f i)).l
  exact ⟨by rw [q8y]; exact w4b hp2 fun k _ => perT_le p f _ k, by omega⟩
 refine ⟨⟨fun i hi => (hpe i hi).2, fun i hi => ec_ok (n := p - 1) (ecH_2 _ _ uE'.1) (coef_sm hc hi) (by omega), fun i hi => by rw [heq]; exact hlen i⟩, ⟨by omega, fun i hi => (hE i hi).2, fun i hi => (hpe i hi).2.p, fun i hi => w2r _ _, fun i hi => ?_, fun i hi => rd_ok (n := p - 1) (rdH_2 _ _ uP'.1) (coef_sm hc hi) (by omega)⟩, ?_, ?_⟩
 ·have h0 := hE 0 (by omega)
  have h1 := hE i hi
  have hM : IntL (22 * (2000 * 2000)) (pMul (rw' (q0f p f) 0) (rw' (q0f p f) i)) := (h0.1.mul h1.1).mono (Nat.mul_le_mul_right _ h0.2)
  have hml := q7a (rw' (q0f p f) 0) (rw' (q0f p f) i)
  refine .int hM (q4m p) (q8x (by omega)) (q2p (k := 1) (by decide) (by decide)) (q2p (k := 200) ?_ (by decide))
  exact Nat.le_trans (Nat.mul_le_mul_left _ (Nat.pow_le_pow_right (by decide) (show (pMul (rw' (q0f p f) 0) (rw' (q0f p f) i)).length - (phiP p).length + 1 ≤ 60 by omega))) (by decide)
 ·unfold w1i tabL
  exact List.map_congr_left fun i _ => heq i
 ·intro r hr
  unfold tabL at hr
  obtain ⟨i, hi, rfl⟩ := List.mem_map.1 hr
  have := hlen i
  omega
theorem pCk_of {p : Int} (h : pCk p = 0) : ∃ q : Nat, p = (q : Int) ∧ q ∈ P9 := by
 have hB : pCkB p 1 = 0 := by
  unfold pCkB
  rw [if_neg (fun x => x h), if_neg]
  rintro (h1 | h1)
  ·omega
  ·exact h1 (Int.tmod_one _)
 obtain ⟨h1, h2, h3, _, _⟩ := ckB_zero hB
 exact ⟨p.toNat, by omega, h3⟩
theorem polynomials_run (H : Heap) (p f : Int) (hp : I64 p) (hf : I64 f) : ∃ fuel H', q1k Tryz.prog mdO fuel H.length 3 [.int .i64 p, .int .i64 f] H = some (.bool true, H') := by
 refine icall_yes Tryz.func3 rfl ?_
 have k0 := fun lk H' => l48_awake lk H'
 have kt := fun lk H' => q1g mdLe (r48_Terms lk H' p f)
 have kp := fun lk H' => q1g mdLe (r48_Prime lk H' p)
 by_cases hc : pCkB p f = 0
 ·rw [hc] at kt
  obtain ⟨h1, h2, h3, h4, h5⟩ := ckB_zero hc
  obtain ⟨q, rfl⟩ : ∃ q : Nat, p = (q : Int) := ⟨p.toNat, by omega⟩
  obtain ⟨n, rfl⟩ : ∃ n : Nat, f = (n : Int) := ⟨f.toNat, by omega⟩
  rw [Int.toNat_natCast] at h3
  have hn : n ≤ 9223372036854775807 := by have := hf.2; omega
  obtain ⟨hq2, hq23⟩ := q3a h3
  have hk0 : pCk (q : Int) = 0 := pCk_p9 q h3
  rw [hk0] at kp
  have hps := q5q q n
  have hpd : (q - 1) / n ≤ q - 1 := Nat.div_le_self _ _
  obtain ⟨okN, okR, heq⟩ := polB_ok hc (pol_ok hc)
  obtain ⟨okT, okT2, hteq, hrows⟩ := rtabOk hc
  have hpl : (polyL q n).length ≤ 1000000 := by
   unfold polyL
   rw [List.length_map, plS_len]; omega
  have htl : (tabL q n (q0f q n).length).length ≤ 1000000 := by rw [tabL_len]; omega
  simp -dsimp only [go_sem]
  refine q2t (p_Poly h3 (by omega) hn hc (by omega) okN H) (Nat.le_refl _) ?_
  rintro v1 H1 hE1 ⟨w1, rfl, g1⟩
  have l1 := hE1.le
  simp -dsimp only [go_sem]
  refine q2t (p_Table h3 (by omega) hn hc okT2 H1) (by omega) ?_
  rintro v2 H2 hE2 ⟨w2, rfl, g2⟩
  have l2 := hE2.le
  simp -dsimp only [go_sem]
  have fin : ∀ {H3 : Heap}, Ext H2 H3 → q4k 17 [.int .i64 (q : Int), .int .i64 (n : Int)] H3 (fun v H4 => (∀ lk, q0c Tryz.prog mdO lk 13 [w1, v] H4 = some (.bool true, H4)) ∧ q4k 19 [.int .i64 (q : Int), .int .i64 (n : Int)] H4 (fun u H5 => ∀ lk, q0c Tryz.prog mdO lk 18 [w2, u] H5 = some (.bool true, H5))) := by
   intro H3 hE3
   refine (r48_Poly h3 hn okR H3).o.mono ?_
   intro v H4 hE4 hv
   rw [← heq] at hv
   refine ⟨fun lk => ?_, ?_⟩
   ·have := q1g mdLe (w2k (g1.ext (hE2.trans (hE3.trans hE4))) hv hpl hpl lk)
    rw [decide_eq_true rfl] at this
    exact this
   ·refine (r48_Table hc okT H4).o.mono ?_
    intro u H5 hE5 hu lk
    rw [hteq] at hu
    have := q1g mdLe (r5_Same (g2.ext (hE3.trans (hE4.trans hE5))) hu htl htl hrows hrows lk)
    rw [decide_eq_true rfl] at this
    exact this
  by_cases hq : q = 2
  ·subst hq
   have kg : ∀ lk H, q0c Tryz.prog mdO lk 11 [.int .i64 ((2 : Nat) : Int)] H = some (.tuple #[.slice none 0 0, .int .i64 7], H ++ [⟨[.int .i64 2], 1, false⟩]) := fun lk H => q1g mdLe (p_Gauss2 H lk)
   have f2 : (((2 : Nat) : Int) = 2) = True := eq_true rfl
   simp -dsimp only [go_sem, kg, kp, f2, kt]
   refine q2t (fin (Ext.app _ _)) (by rw [List.length_append]; omega) ?_
   rintro v3 H3 hE3 ⟨g3, g4⟩
   have l3 := hE3.le
   simp -dsimp only [go_sem, g3]
   refine q2t g4 (by rw [List.length_append] at l3; omega) ?_
   intro v4 H4 hE4 g5
   simp -dsimp only [go_sem, g5, k0]
  ·have f2 : ((q : Int) = 2) = False := eq_false (by omega)
   refine q2t (w2q h3 hq H2).o (by omega) ?_
   rintro v3 H3 hE3 ⟨w3, rfl, g3⟩
   have l3 := hE3.le
   simp -dsimp only [go_sem, kp, f2]
   refine q2t (w3k h3 hq H3).o (by omega) ?_
   intro v4 H4 hE4 g4
   have l4 := hE4.le
   have hgl := (gs_elm h3).l
   have q1 := fun lk => q1g mdLe (w2k (g3.ext hE4) g4 (by omega) (by omega) lk)
   rw [decide_eq_true rfl] at q1
   simp -dsimp only [go_sem, q1, kt]
   refine q2t (fin (hE3.trans hE4)) (by omega) ?_
   rintro v5 H5 hE5 ⟨g5, g6⟩
   have l5 := hE5.le
   simp -dsimp only [go_sem, g5]
   refine q2t g6 (by omega) ?_
   intro v6 H6 hE6 g7
   simp -dsimp only [go_sem, g7, k0]
 ·simp -dsimp only [go_sem]
  refine q2t (p_PolyBad H p f hc) (Nat.le_refl _) ?_
  rintro v1 H1 hE1 rfl
  have l1 := hE1.le
  simp -dsimp only [go_sem]
  refine q2t (p_TableBad H1 p f hc) (by omega) ?_
  rintro v2 H2 hE2 rfl
  have l2 := hE2.le
  simp -dsimp only [go_sem]
  by_cases hk : pCk p = 0
  ·rw [hk] at kp
   obtain ⟨q, rfl, h3⟩ := pCk_of hk
   by_cases hq : q = 2
   ·subst hq
    have kg : ∀ lk H, q0c Tryz.prog mdO lk 11 [.int .i64 ((2 : Nat) : Int)] H = some (.tuple #[.slice none 0 0, .int .i64 7], H ++ [⟨[.int .i64 2], 1, false⟩]) := fun lk H => q1g mdLe (p_Gauss2 H lk)
    have f2 : (((2 : Nat) : Int) = 2) = True := eq_true rfl
    simp -dsimp only [go_sem, kg, kp, f2, kt, hc, k0]
   ·have f2 : ((q : Int) = 2) = False := eq_false (by omega)
    refine q2t (w2q h3 hq H2).o (by omega) ?_
    rintro v3 H3 hE3 ⟨w3, rfl, g3⟩
    have l3 := hE3.le
    simp -dsimp only [go_sem, kp, f2]
    refine q2t (w3k h3 hq H3).o (by omega) ?_
    intro v4 H4 hE4 g4
    have hgl := (gs_elm h3).l
    have hq23 := (q3a h3).2
    have q1 := fun lk => q1g mdLe (w2k (g3.ext hE4) g4 (by omega) (by omega) lk)
    rw [decide_eq_true rfl] at q1
    simp -dsimp only [go_sem, q1, kt, hc, k0]
  ·have kg := fun lk H => q1g mdLe (p_GaussBad H p hk lk)
   have hcb : pCkB p f = pCk p := by unfold pCkB; rw [if_pos hk]
   simp -dsimp only [go_sem, kg, kp, hk, kt, hcb, k0]
end Gx
end
