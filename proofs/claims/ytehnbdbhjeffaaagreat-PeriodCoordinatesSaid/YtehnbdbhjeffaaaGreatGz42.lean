/- Lemmas for the row: plain facts, or contracts of functions. -/
import Derived.Test.YtehnbdbhjeffaaaGreatGz38
import Derived.Test.YtehnbdbhjeffaaaGreatGz41
set_option linter.all false
set_option linter.unusedVariables false
set_option linter.unusedSimpArgs false
set_option linter.unnecessarySimpa false
set_option linter.deprecated false
section
/- Polynomials over a commutative ring, as sequences of coefficients: sums and products. -/
set_option autoImplicit false
namespace Gx.A
section
abbrev R : Type := Rat
def sm (G : Nat → R) : Nat → R
 | 0 => 0
 | n + 1 => sm G n + G n
theorem sm_congr {G F : Nat → R} {n : Nat} (h : ∀ i, i < n → G i = F i) : sm G n = sm F n := by
 induction n with
 | zero => rfl
 | succ n ih => rw [sm, sm, ih fun i hi => h i (by omega), h n (by omega)]
theorem sm_zero (n : Nat) : sm (fun _ => (0 : R)) n = 0 := by
 induction n with
 | zero => rfl
 | succ n ih => rw [sm, ih]; grind
theorem sm_zero' {G : Nat → R} {n : Nat} (h : ∀ i, i < n → G i = 0) : sm G n = 0 := by rw [sm_congr h, sm_zero]
theorem sm_add (G F : Nat → R) (n : Nat) : sm (fun i => G i + F i) n = sm G n + sm F n := by
 induction n with
 | zero => simp only [sm]; grind
 | succ n ih => rw [sm, sm, sm, ih]; grind
theorem sm_sub (G F : Nat → R) (n : Nat) : sm (fun i => G i - F i) n = sm G n - sm F n := by
 induction n with
 | zero => simp only [sm]; grind
 | succ n ih => rw [sm, sm, sm, ih]; grind
theorem sm_mul (c : R) (G : Nat → R) (n : Nat) : sm (fun i => c * G i) n = c * sm G n := by
 induction n with
 | zero => simp only [sm]; grind
 | succ n ih => rw [sm, sm, ih]; grind
theorem sm_mulr (G : Nat → R) (c : R) (n : Nat) : sm (fun i => G i * c) n = sm G n * c := by
 induction n with
 | zero => simp only [sm]; grind
 | succ n ih => rw [sm, sm, ih]; grind
theorem sm_front (G : Nat → R) (n : Nat) : sm G (n + 1) = G 0 + sm (fun i => G (i + 1)) n := by
 induction n with
 | zero => simp only [sm]; grind
 | succ n ih => rw [sm, ih, sm]; grind
theorem sm_rev (G : Nat → R) (n : Nat) : sm G n = sm (fun i => G (n - 1 - i)) n := by
 induction n with
 | zero => rfl
 | succ n ih =>
  rw [sm_front (fun i => G (n + 1 - 1 - i)), sm, ih]
  have : sm (fun i => G (n + 1 - 1 - (i + 1))) n = sm (fun i => G (n - 1 - i)) n := sm_congr fun i hi => by congr 1; omega
  rw [this]
  simp only [Nat.add_sub_cancel, Nat.sub_zero]
  grind
theorem sm_one (G : Nat → R) (n k : Nat) (hk : k < n) (h : ∀ i, i < n → i ≠ k → G i = 0) : sm G n = G k := by
 induction n with
 | zero => omega
 | succ n ih =>
  rw [sm]
  by_cases hn : k = n
  ·subst hn
   rw [sm_zero' fun i hi => h i (by omega) (by omega)]; grind
  ·rw [ih (by omega) fun i hi => h i (by omega), h n (by omega) (fun e => hn e.symm)]; grind
theorem sm_more (G : Nat → R) (n m : Nat) (hm : n ≤ m) (h : ∀ i, n ≤ i → i < m → G i = 0) : sm G m = sm G n := by
 induction m with
 | zero => have : n = 0 := by omega
           subst this; rfl
 | succ m ih =>
  by_cases hn : n = m + 1
  ·subst hn; rfl
  ·rw [sm, ih (by omega) fun i h1 h2 => h i h1 (by omega), h m (by omega) (by omega)]; grind
def conv (a b : Nat → R) (k : Nat) : R := sm (fun i => a i * b (k - i)) (k + 1)
theorem conv_zero (a b : Nat → R) : conv a b 0 = a 0 * b 0 := by simp only [conv, sm, Nat.sub_self]; grind
theorem conv_succ (a b : Nat → R) (k : Nat) : conv a b (k + 1) = a 0 * b (k + 1) + conv (fun i => a (i + 1)) b k := by
 unfold conv
 rw [sm_front]
 have : sm (fun i => a (i + 1) * b (k + 1 - (i + 1))) (k + 1) = sm (fun i => a (i + 1) * b (k - i)) (k + 1) := sm_congr fun i _ => by congr 2; omega
 rw [this, Nat.sub_zero]
theorem conv_comm (a b : Nat → R) (k : Nat) : conv a b k = conv b a k := by
 unfold conv
 rw [sm_rev]
 refine sm_congr fun i hi => ?_
 have e1 : k + 1 - 1 - i = k - i := by omega
 have e2 : k - (k - i) = i := by omega
 rw [e1, e2]; grind
theorem conv_congr {a b c d : Nat → R} {k : Nat} (h1 : ∀ i, i ≤ k → a i = c i) (h2 : ∀ i, i ≤ k → b i = d i) : conv a b k = conv c d k :=
 sm_congr fun i hi => by rw [h1 i (by omega), h2 (k - i) (by omega)]
theorem conv_add (a b c : Nat → R) (k : Nat) : conv (fun i => a i + b i) c k = conv a c k + conv b c k := by
 unfold conv
 rw [← sm_add]
 exact sm_congr fun i _ => by grind
theorem conv_sub (a b c : Nat → R) (k : Nat) : conv (fun i => a i - b i) c k = conv a c k - conv b c k := by
 unfold conv
 rw [← sm_sub]
 exact sm_congr fun i _ => by grind
theorem conv_mul (x : R) (a b : Nat → R) (k : Nat) : conv (fun i => x * a i) b k = x * conv a b k := by
 unfold conv
 rw [← sm_mul]
 exact sm_congr fun i _ => by grind
theorem conv_nil (b : Nat → R) (k : Nat) : conv (fun _ => 0) b k = 0 := sm_zero' fun i _ => by grind
theorem conv_assoc (a b c : Nat → R) (k : Nat) : conv (conv a b) c k = conv a (conv b c) k := by
 induction k generalizing a b c with
 | zero => simp only [conv_zero]; grind
 | succ k ih =>
  rw [conv_succ (conv a b), conv_succ a (conv b c)]
  have h : (fun i => conv a b (i + 1)) = fun i => a 0 * b (i + 1) + conv (fun i => a (i + 1)) b i := funext fun i => conv_succ a b i
  rw [h, conv_add, conv_mul, ih, conv_zero, conv_succ b c]
  grind
theorem conv_one (a : Nat → R) (k : Nat) : conv (fun i => if i = 0 then 1 else 0) a k = a k := by
 unfold conv
 rw [sm_one _ _ 0 (by omega) fun i _ hi => by simp only []; rw [if_neg hi]; grind]
 simp only [if_true, Nat.sub_zero]; grind
theorem conv_shift (n : Nat) (c : R) (a : Nat → R) (k : Nat) : conv (fun i => if i = n then c else 0) a k = if n ≤ k then c * a (k - n) else 0 := by
 unfold conv
 split
 ·rename_i h
  rw [sm_one _ _ n (by omega) fun i _ hi => by simp only []; rw [if_neg hi]; grind]
  simp only [if_true]
 ·rename_i h
  exact sm_zero' fun i hi => by simp only []; rw [if_neg (by omega)]; grind
def Below (n : Nat) (a : Nat → R) : Prop := ∀ i, n ≤ i → a i = 0
theorem Below.mono {n m : Nat} {a : Nat → R} (h : Below n a) (hm : n ≤ m) : Below m a := fun i hi => h i (by omega)
theorem Below.conv {m n : Nat} {a b : Nat → R} (ha : Below m a) (hb : Below n b) : Below (m + n - 1) (conv a b) := fun k hk => by
 refine sm_zero' fun i hi => ?_
 by_cases h : m ≤ i
 ·rw [ha i h]; grind
 ·rw [hb (k - i) (by omega)]; grind
theorem conv_top {m n : Nat} {a b : Nat → R} (ha : Below (m + 1) a) (hb : Below (n + 1) b) : conv a b (m + n) = a m * b n := by
 unfold A.conv
 rw [sm_one _ _ m (by omega) fun i hi hne => ?_]
 ·congr 2; omega
 ·by_cases h : m + 1 ≤ i
  ·rw [ha i h]; grind
  ·rw [hb (m + n - i) (by omega)]; grind
theorem conv_len {m n : Nat} {a b : Nat → R} (ha : Below m a) (hb : Below n b) (k : Nat) : conv a b k = sm (fun i => if i ≤ k ∧ k - i < n then a i * b (k - i) else 0) m := by
 unfold A.conv
 have h1 : sm (fun i => a i * b (k - i)) (k + 1) = sm (fun i => if i ≤ k ∧ k - i < n then a i * b (k - i) else 0) (k + 1) := sm_congr fun i hi => by
  split
  ·rfl
  ·rename_i h; rw [hb (k - i) (by omega)]; grind
 rw [h1]
 have h2 : ∀ i, k + 1 ≤ i → (if i ≤ k ∧ k - i < n then a i * b (k - i) else 0) = 0 := fun i hi => if_neg (by omega)
 have h3 : ∀ i, m ≤ i → (if i ≤ k ∧ k - i < n then a i * b (k - i) else 0) = 0 := fun i hi => by
  split
  ·rw [ha i hi]; grind
  ·rfl
 by_cases h : m ≤ k + 1
 ·exact sm_more _ _ _ h fun i hi _ => h3 i hi
 ·exact (sm_more _ _ _ (by omega) fun i hi _ => h2 i hi).symm
theorem quot_zero {n m : Nat} {d g s : Nat → R} (hreg : ∀ x : R, x * g n = 0 → x = 0) (hg : Below (n + 1) g) (hs : Below n s) (h : ∀ k, conv d g k = s k) (hd : Below m d) : ∀ k, d k = 0 := by
 induction m with
 | zero => exact fun k => hd k (Nat.zero_le _)
 | succ m ih =>
  refine ih fun i hi => ?_
  by_cases hm : i = m
  ·subst hm
   refine hreg _ ?_
   rw [← conv_top hd hg, h]
   exact hs _ (by omega)
  ·exact hd i (by omega)
theorem div_uniq {n m : Nat} {q q' g r r' : Nat → R} (hreg : ∀ x : R, x * g n = 0 → x = 0) (hg : Below (n + 1) g) (hr : Below n r) (hr' : Below n r') (hq : Below m q) (hq' : Below m q') (h : ∀ k, conv q g k + r k = conv q' g k + r' k) : (∀ k, q k = q' k) ∧ ∀ k, r k = r' k := by
 have hz := quot_zero (d := fun i => q i - q' i) (s := fun i => r' i - r i) (m := m) hreg hg (fun i hi => by simp only []; rw [hr i hi, hr' i hi]; grind) (fun k => by rw [conv_sub]; have := h k; grind) (fun i hi => by simp only []; rw [hq i hi, hq' i hi]; grind)
 have hqq : ∀ k, q k = q' k := fun k => by have := hz k; grind
 refine ⟨hqq, fun k => ?_⟩
 have := h k
 rw [conv_congr (fun i _ => hqq i) (fun i _ => rfl)] at this
 grind
end
end Gx.A
end
section
set_option autoImplicit false
namespace Gx
open Go Go.Proofs
set_option maxRecDepth 10000
section
variable {P : Program} {md : Md} {lk : Nat} {σ : Env} {H : Heap} {Q : Ex → Env → Heap → Prop}
theorem r_unroll {c : Code} (h : Runs P md lk c σ H (Then P md lk (.loop c) Q)) : Runs P md lk (.loop c) σ H Q := by
 obtain ⟨n, e, σ1, H1, h1, h2⟩ := h
 cases e with
 | normal =>
  obtain ⟨m, e2, σ2, H2, h3, h4⟩ := h2
  refine ⟨max n m + 1, e2, σ2, H2, ?_, h4⟩
  simp only [iexec, iexec_le _ _ (Nat.le_max_left n m) _ _ _ _ _ h1, iexec_le _ _ (Nat.le_max_right n m) _ _ _ _ _ h3]
 | exit id => exact ⟨n + 1, _, _, _, by simp only [iexec, h1], h2⟩
 | ret => exact ⟨n + 1, _, _, _, by simp only [iexec, h1], h2⟩
end
section
variable {α : Type} [Enc α]
def OwnP (lo : Nat) (H : Heap) (a : Option Addr) (l : List α) : Prop := (a = none ∧ l = []) ∨ ∃ b B, a = some ⟨b, 0, none⟩ ∧ lo ≤ b ∧ ilive H b = some B ∧ B.sz = Enc.n α ∧ B.c.take (l.length * Enc.n α) = cells l ∧ l.length * Enc.n α ≤ B.c.length
theorem Own.p {lo : Nat} {H : Heap} {a : Option Addr} {l : List α} (h : Own lo H a l) : OwnP lo H a l := by
 rcases h with h | ⟨b, h1, h2, h3⟩
 ·exact .inl h
 ·refine .inr ⟨b, _, h1, h2, h3, rfl, ?_, by rw [lblk_c, cells_len]; exact Nat.le_refl _⟩
  rw [lblk_c, List.take_of_length_le (by rw [cells_len]; exact Nat.le_refl _)]
theorem SL.first {H : Heap} {a : Option Addr} {l : List α} (h : SL H a l) : ifirst H (Enc.n α) l.length (.slice a l.length l.length) = some (cells l) := by
 rcases h with ⟨rfl, rfl⟩ | ⟨b, o, B, rfl, h2, h3, h4, h5⟩
 ·rfl
 ·rw [ifirst_eq, if_pos ⟨Nat.le_refl _, rfl⟩]
  by_cases h0 : l.length = 0
  ·rw [if_pos h0, List.eq_nil_of_length_eq_zero h0]; rfl
  ·rw [if_neg h0, h2]
   simp only [h3, if_true]
   unfold isub
   rw [if_pos h5, h4]
variable {P : Program} {lk : Nat} {t t2 e e2 : TypeId} {k by_ : Nat} {zs : List Value}
theorem ap_all {H0 H : Heap} {a b : Option Addr} {l r : List α} (hE : Ext H0 H) (h : OwnP H0.length H a l) (hr : SL H b r) (hlk : lk ≤ H0.length) (he : telem P t = some e) (he2 : telem P t2 = some e2) (hk : tsz P e = some k) (hb : tbytes P e = some by_) (hz : tzero P e = some zs)
  (hkn : k = Enc.n α) (hk0 : 0 < k) (hzs : zs.length = k) (hb0 : 0 < by_) (hle : (l.length + r.length) * by_ ≤ 70368744177664) :
  ∃ a' H', iappend P lk H t t2 (.slice a l.length l.length) (.slice b r.length r.length) = some (.slice a' (l.length + r.length) (l.length + r.length), H') ∧ Ext H0 H' ∧ Own H0.length H' a' (l ++ r) ∧ (a = none → r = [] → a' = none) := by
 subst hkn
 have hf := hr.first
 rw [iappend_eq]
 simp only [he, he2, hk, hb, hz, ilenOf_eq, hf]
 rw [if_pos ⟨hk0, hzs, hb0⟩]
 rcases h with ⟨rfl, rfl⟩ | ⟨c, B, rfl, h2, h3, h4, h5, h6⟩
 ·simp only [List.length_nil, Nat.zero_add, List.nil_append] at hle ⊢
  rw [if_pos hle]
  by_cases h0 : r.length = 0
  ·rw [if_pos h0, h0]
   have := List.eq_nil_of_length_eq_zero h0
   subst this
   exact ⟨none, H, rfl, hE, Own.nil, fun _ _ => rfl⟩
  ·rw [if_neg h0]
   exact ⟨_, _, rfl, hE.more _, .inr ⟨H.length, rfl, hE.le, ilive_new _ _⟩, fun _ h => absurd (by rw [h]; rfl) h0⟩
 ·simp only [h3]
  rw [if_pos ⟨trivial, h4, Nat.le_trans hlk h2, hle, by omega⟩, List.drop_zero, h5, ← cells_app]
  refine ⟨_, _, rfl, (hE.set h2 _).more _, .inr ⟨H.length, rfl, hE.le, ?_⟩, fun h => by cases h⟩
  have := ilive_new (H := H.set c { B with dead := true }) (cells (l ++ r)) (Enc.n α)
  rw [List.length_set] at this
  exact this
end
def Yields (g : FuncId) (args : List Value) (H : Heap) (R : Value → Heap → Prop) : Prop :=
 ∀ lk, lk ≤ H.length → ∃ v H', gcall Tryz.prog md lk g args H = some (v, H') ∧ Ext H H' ∧ R v H'
theorem Yields.mono {g : FuncId} {args : List Value} {H : Heap} {R R' : Value → Heap → Prop} (h : Yields g args H R) (hr : ∀ v H', Ext H H' → R v H' → R' v H') : Yields g args H R' :=
 fun lk hl => let ⟨v, H', h1, h2, h3⟩ := h lk hl; ⟨v, H', h1, h2, hr v H' h2 h3⟩
theorem y_raw {g : FuncId} {args : List Value} {H : Heap} {R : Value → Heap → Prop} {fn : Func} {body : Code} (hm : md g ≠ 1 ∧ md g ≠ 2 ∧ md g ≠ 3 ∧ md g ≠ 4 ∧ md g ≠ 5) (hg : Tryz.prog.funcs[g]? = some fn) (hb : fn.body = some body)
  (h : ∀ lk, lk ≤ H.length → Runs Tryz.prog md lk body (args0 args) H (Ends Tryz.prog fn fun v H' => Ext H H' ∧ R v H')) : Yields g args H R := by
 intro lk hl
 obtain ⟨v, H', h1, h2, h3⟩ := pcall_raw hm.1 hm.2.1 ⟨hm.2.2.1, hm.2.2.2.1, hm.2.2.2.2⟩ hg hb (h lk hl)
 refine ⟨v, H', ?_, h2, h3⟩
 rw [gcall_go hg (by rw [hb]; rfl)]
 exact h1
theorem ob_y {g : FuncId} {args : List Value} {H : Heap} {R : Value → Heap → Prop} {lk : Nat} {f : Value → Heap → Prop} (h : Yields g args H R) (hl : lk ≤ H.length) (hk : ∀ v H', Ext H H' → R v H' → f v H') : obind2 (gcall Tryz.prog md lk g args H) f := by
 obtain ⟨v, H', h1, h2, h3⟩ := h lk hl
 rw [h1]
 exact hk v H' h2 h3
theorem y_val1 {g : FuncId} {args : List Value} {H : Heap} {R : Value → Prop} {fn : Func} {body : Code} (hm : md g = 1) (hg : Tryz.prog.funcs[g]? = some fn) (hb : fn.body = some body) (hk : ∀ v, R v → kokV v = true)
  (h : Runs Tryz.prog md H.length body (args0 args) H (Ends Tryz.prog fn fun v _ => R v)) : ∃ v, (∀ lk, gcall Tryz.prog md lk g args H = some (v, H)) ∧ R v := by
 obtain ⟨n, v, H', h1, h2⟩ := icall_of hg hb h
 refine ⟨v, fun lk => ?_, h2⟩
 rw [gcall_go hg (by rw [hb]; rfl)]
 refine pcall_iff.2 ⟨n, ?_⟩
 unfold wrap wrap0
 rw [hm]
 simp only [h1, hk v h2, if_true]

section
variable {α : Type} [Enc α]
def LV (H : Heap) (v : Value) (l : List α) : Prop := ∃ a, v = .slice a l.length l.length ∧ SL H a l
def OV (lo : Nat) (H : Heap) (v : Value) (l : List α) : Prop := ∃ a, v = .slice a l.length l.length ∧ Own lo H a l
theorem OV.lv {lo : Nat} {H : Heap} {v : Value} {l : List α} (h : OV lo H v l) : LV H v l := let ⟨a, h1, h2⟩ := h; ⟨a, h1, h2.sl⟩
theorem LV.ext {H H' : Heap} {v : Value} {l : List α} (h : LV H v l) (hE : Ext H H') : LV H' v l := let ⟨a, h1, h2⟩ := h; ⟨a, h1, hE.sl h2⟩
theorem LV.nil {H : Heap} : LV H (.slice none 0 0) ([] : List α) := ⟨none, rfl, SL.nil⟩
theorem OV.nil {lo : Nat} {H : Heap} : OV lo H (.slice none 0 0) ([] : List α) := ⟨none, rfl, Own.nil⟩
end
theorem Ext.own {α : Type} [Enc α] {H H' : Heap} (h : Ext H H') {lo : Nat} {a : Option Addr} {l : List α} (ho : Own lo H a l) : Own lo H' a l := by
 rcases ho with h1 | ⟨b, h1, h2, h3⟩
 ·exact .inl h1
 ·exact .inr ⟨b, h1, h2, h.live h3⟩
section
variable {α : Type} [Enc α] {P : Program} {lk : Nat} {t t2 : TypeId}
theorem ap_ownN {lo : Nat} {H : Heap} {a : Option Addr} {l : List α} {n : Nat} (h : Own lo H a l) (hlk : lk ≤ lo) (hn : n = l.length) (N : List Blk) (j : Nat) (new : List Value) (k : Nat) (hk : k = Enc.n α) (hnew : new.length = k) (hj : N[j]? = some ⟨new, k, false⟩) :
  iappend P lk (H ++ N) t t2 (.slice a n n) (.slice (some ⟨H.length + j, 0, none⟩) 1 1) = match telem P t, telem P t2 with
 | some e, some _ =>
  match tsz P e, tbytes P e, tzero P e with
  | some k', some by_, some zs => if k' = k ∧ 0 < k ∧ zs.length = k ∧ 0 < by_ ∧ (n + 1) * by_ ≤ 70368744177664 then
    some (.slice (some ⟨H.length + N.length, 0, none⟩) (n + 1) (n + 1), kill (H ++ N) a ++ [⟨cells l ++ new, k, false⟩]) else none
  | _, _, _ => none
 | some e, none => iappendN P (H ++ N) e t2 (.slice a n n) (.slice (some ⟨H.length + j, 0, none⟩) 1 1)
 | none, _ => none := by
 subst hn
 rw [iappend_eq]
 cases telem P t with
 | none => rfl
 | some e =>
 cases telem P t2 with
 | none => rfl
 | some e2 =>
 cases htz : tsz P e with
 | none => simp [htz]
 | some k' =>
 cases htb : tbytes P e with
 | none => simp [htz, htb]
 | some by_ =>
 cases htzz : tzero P e with
 | none => simp [htz, htb, htzz]
 | some zs =>
 have hl : ilive (H ++ N) (H.length + j) = some ⟨new, k, false⟩ := by
  unfold ilive; rw [get_appN, hj]; rfl
 simp only [htz, htb, htzz, ilenOf_eq, ifirst_eq, hl, Nat.le_refl, true_and, if_true, Nat.one_mul]
 by_cases hkk : k' = k
 ·subst hkk
  have hs : isub new 0 k' = some new := isub_all _ _ hnew
  simp only [Nat.succ_ne_zero, if_false, if_true, hs]
  rcases h with ⟨rfl, rfl⟩ | ⟨b, rfl, h2, h3⟩
  ·simp only [List.length_nil, Nat.zero_add, Nat.one_mul, Gx.kill, cells_nil, List.nil_append, List.length_append]
   by_cases hc : 0 < k' ∧ zs.length = k' ∧ 0 < by_
   ·rw [if_pos hc]
    by_cases hb : by_ ≤ 70368744177664
    ·rw [if_pos hb, if_pos ⟨trivial, hc.1, hc.2.1, hc.2.2, hb⟩]
    ·rw [if_neg hb, if_neg (fun x => hb x.2.2.2.2)]
   ·rw [if_neg hc, if_neg (fun x => hc ⟨x.2.1, x.2.2.1, x.2.2.2.1⟩)]
  ·have hg : ilive (H ++ N) b = some (lblk l) := ilive_app h3
   simp only [hg, Gx.kill, ilive_get hg, lblk_sz, lblk_c, List.drop_zero, Nat.zero_add]
   by_cases hc : 0 < k' ∧ zs.length = k' ∧ 0 < by_
   ·rw [if_pos hc]
    by_cases hb : (l.length + 1) * by_ ≤ 70368744177664
    ·rw [if_pos ⟨trivial, hk.symm, Nat.le_trans hlk h2, hb, by rw [cells_len, hk]; exact Nat.le_refl _⟩, if_pos ⟨trivial, hc.1, hc.2.1, hc.2.2, hb⟩]
     rw [List.take_of_length_le (by rw [cells_len, hk]; exact Nat.le_refl _)]
     simp [lblk]
    ·rw [if_neg (fun x => hb x.2.2.2.1), if_neg (fun x => hb x.2.2.2.2)]
   ·rw [if_neg hc, if_neg (fun x => hc ⟨x.2.1, x.2.2.1, x.2.2.2.1⟩)]
 ·rw [if_neg (show ¬ k = k' from fun x => hkk x.symm)]
  simp only [hkk, false_and, if_false, Nat.succ_ne_zero]
end
abbrev rC (q : Rat) : List Value := [.bool (decide (q.num < 0)), .string (mkS (bytes q.num.natAbs)), .string (mkS (bytes q.den))]
section
variable {lk : Nat} {H0 H : Heap} {a : Option Addr} {l : List Rat} {n : Nat}
theorem own_rat (hE : Ext H0 H) (hO : Own H0.length H a l) (q : Rat) (N : List Blk) : Own H0.length (kill (H ++ N) a ++ [⟨cells l ++ rC q, 3, false⟩]) (some ⟨H.length + N.length, 0, none⟩) (l ++ [q]) :=
 own_ap (lo := H0.length) (H := H) (a := a) (l := l) q N (by have := hE.le; omega)
theorem ext_rat (hE : Ext H0 H) (hO : Own H0.length H a l) (N M : List Blk) : Ext H0 (kill (H ++ N) a ++ M) := ((hO.more N).kill (hE.more N)).more M
variable {t t2 : TypeId}
theorem ap_rat (he : telem Tryz.prog t = some 55) (he2 : telem Tryz.prog t2 = some 55) (hO : Own H0.length H a l) (hlk : lk ≤ H0.length) (hn : n = l.length) (hle : n ≤ 1000000) (q : Rat) :
  iappend Tryz.prog lk (H ++ [⟨rC q, 3, false⟩]) t t2 (.slice a n n) (.slice (some ⟨H.length, 0, none⟩) 1 1) = some (.slice (some ⟨H.length + 1, 0, none⟩) (n + 1) (n + 1), kill (H ++ [⟨rC q, 3, false⟩]) a ++ [⟨cells l ++ rC q, 3, false⟩]) := by
 have := ap_ownN (P := Tryz.prog) (lk := lk) (t := t) (t2 := t2) hO hlk hn [⟨rC q, 3, false⟩] 0 (rC q) 3 rfl rfl rfl
 refine this.trans ?_
 rw [he, he2]
 simp only [go_sem]
 rw [if_pos (by omega)]
theorem ap_rat' (he : telem Tryz.prog t = some 55) (he2 : telem Tryz.prog t2 = some 55) (hO : Own H0.length H a l) (hlk : lk ≤ H0.length) (hn : n = l.length) (hle : n ≤ 1000000) (q : Rat) (B : Blk) :
  iappend Tryz.prog lk (H ++ [B, ⟨rC q, 3, false⟩]) t t2 (.slice a n n) (.slice (some ⟨H.length + 1, 0, none⟩) 1 1) = some (.slice (some ⟨H.length + 2, 0, none⟩) (n + 1) (n + 1), kill (H ++ [B, ⟨rC q, 3, false⟩]) a ++ [⟨cells l ++ rC q, 3, false⟩]) := by
 have := ap_ownN (P := Tryz.prog) (lk := lk) (t := t) (t2 := t2) hO hlk hn [B, ⟨rC q, 3, false⟩] 1 (rC q) 3 rfl rfl rfl
 refine this.trans ?_
 rw [he, he2]
 simp only [go_sem]
 rw [if_pos (by omega)]
theorem app_rats {b : Option Addr} {r : List Rat} (he : telem Tryz.prog t = some 55) (he2 : telem Tryz.prog t2 = some 55) (hE : Ext H0 H) (hO : OwnP H0.length H a l) (hr : SL H b r) (hlk : lk ≤ H0.length) (hle : l.length + r.length ≤ 1000000) :
  ∃ a' H', iappend Tryz.prog lk H t t2 (.slice a l.length l.length) (.slice b r.length r.length) = some (.slice a' (l.length + r.length) (l.length + r.length), H') ∧ Ext H0 H' ∧ Own H0.length H' a' (l ++ r) ∧ (a = none → r = [] → a' = none) :=
 ap_all (P := Tryz.prog) hE hO hr hlk he he2 (k := 3) (by_ := 40) (zs := [.bool false, .string ByteArray.empty, .string ByteArray.empty]) (by simp only [go_sem]) (by simp only [go_sem]) (by kernel_rfl) rfl (by decide) rfl (by decide) (by omega)
end
def mapR (F : Nat → Rat) (n : Nat) : List Rat := (List.range n).map F
theorem mapR_len (F : Nat → Rat) (n : Nat) : (mapR F n).length = n := by simp [mapR]
theorem mapR_succ (F : Nat → Rat) (n : Nat) : mapR F (n + 1) = mapR F n ++ [F n] := by simp [mapR, List.range_succ]
def qf (f : List Rat) (i : Nat) : Rat := f.getD i 0
theorem qf_lt {f : List Rat} {i : Nat} (h : i < f.length) : qf f i = f[i] := by simp [qf, h]
theorem qf_ge {f : List Rat} {i : Nat} (h : f.length ≤ i) : qf f i = 0 := by simp [qf, h]
def trm (f : List Rat) : List Rat := f.take (trimQ f f.length)
theorem trm_len (f : List Rat) : (trm f).length = trimQ f f.length := by
 unfold trm; rw [List.length_take]; have := trimQ_le f f.length; omega
theorem trm_le (f : List Rat) : (trm f).length ≤ f.length := by rw [trm_len]; exact trimQ_le _ _
abbrev Sz (q : Rat) : Prop := Sm 4800000 q
def SzL (f : List Rat) : Prop := ∀ x ∈ f, Sz x
theorem SzL.get {f : List Rat} (h : SzL f) {i : Nat} (hi : i < f.length) : Sz f[i] := h _ (List.getElem_mem hi)
theorem SzL.qf {f : List Rat} (h : SzL f) (i : Nat) : Sz (qf f i) := by
 by_cases hi : i < f.length
 ·rw [qf_lt hi]; exact h.get hi
 ·rw [qf_ge (by omega)]; exact sm_zero.mono (by decide)
theorem sgn_zero (q : Rat) : (sgn q.num = 0) = (q = 0) := by
 unfold sgn
 apply propext
 constructor
 ·intro h
  split at h
  ·omega
  ·split at h
   ·rename_i h2; exact Rat.num_eq_zero.1 h2
   ·omega
 ·rintro rfl; rfl
theorem r3_zero (lk : Nat) (H : Heap) : gcall Tryz.prog md lk 28 [.int .i64 0] H = some (vR 0, H) := r3_FromInt lk H 0 (by omega)
theorem r3_one (lk : Nat) (H : Heap) : gcall Tryz.prog md lk 28 [.int .i64 1] H = some (vR 1, H) := r3_FromInt lk H 1 (by omega)
theorem r3_mone (lk : Nat) (H : Heap) : gcall Tryz.prog md lk 28 [.int .i64 (-1)] H = some (vR (-1), H) := r3_FromInt lk H (-1) (by omega)
theorem te_Poly : telem Tryz.prog 23 = some 55 := by simp only [go_sem]
theorem te_Rats : telem Tryz.prog 22 = some 55 := by simp only [go_sem]
theorem SL.ix {H : Heap} {a : Option Addr} {f : List Rat} (hs : SL H a f) (i : Nat) (hi : i < f.length) {t : TypeId} (he : telem Tryz.prog t = some 55) :
  ∃ p, iindexAddr Tryz.prog t (.slice a f.length f.length) (.int .i64 (i : Int)) = some p ∧ ∀ H', Ext H H' → iload Tryz.prog H' 55 p = some (vR f[i]) := by
 obtain ⟨b, o, B, rfl, hB, hz, hg⟩ := hs.rat i hi
 refine ⟨.pointer (some ⟨b, o + i * 3, none⟩), ?_, fun H' hE => ?_⟩
 ·have h1 : (i : Int) < (f.length : Int) := by omega
  simp -dsimp only [go_sem, he, hi]
 ·have hB' := hE.live hB
  simp -dsimp only [go_sem, hB', hg]
theorem SL.cut {H : Heap} {a : Option Addr} {f : List Rat} (hs : SL H a f) (k : Nat) (hk : k ≤ f.length) {t : TypeId} (he : telem Tryz.prog t = some 55) :
  ∀ H', Ext H H' → islice Tryz.prog H' t (.slice a f.length f.length) none (some (.int .i64 (k : Int))) none = some (.slice a k k) := by
 intro H' hE
 rcases hs with ⟨rfl, rfl⟩ | ⟨b, o, B, rfl, h2, h3, _⟩
 ·have : k = 0 := by simpa using hk
  subst this
  simp [islice, ibound, he, go_sem]
 ·have h4 := ilive_get (hE.live h2)
  have h5 : B.sz = 3 := h3
  simp [islice, ibound, he, go_sem, h4, h5, hk]
theorem r6_Trim {H : Heap} {v : Value} {f : List Rat} (hl : f.length ≤ 1000000) (hv : LV H v f) : Yields 79 [v] H (fun v H' => OV H.length H' v (trm f)) := by
 obtain ⟨a, rfl, hs⟩ := hv
 refine y_raw (by decide) Tryz.func79 rfl ?_
 intro lk hlk
 simp -dsimp only [go_sem]
 refine r_loop (m := id) (I := fun k σ H' => k ≤ f.length ∧ trimQ f k = trimQ f f.length ∧ H = H' ∧ σ 0 = .slice a f.length f.length ∧ σ 3 = .int .i64 (k : Int)) f.length ⟨Nat.le_refl _, rfl, rfl, rfl, rfl⟩ ?_
 rintro k σ H' ⟨h1, h2, rfl, h0, h3⟩
 have hcut := hs.cut k h1 te_Poly (H ++ [⟨[], 3, false⟩]) (Ext.app H _)
 have fin : trimQ f f.length = k → ∃ a' H2, iappend Tryz.prog lk (H ++ [⟨[], 3, false⟩]) 23 23 (.slice (some ⟨H.length, 0, none⟩) 0 0) (.slice a k k) = some (.slice a' k k, H2) ∧ Ext H H2 ∧ OV H.length H2 (.slice a' k k) (trm f) := by
  intro hk
  have hO : OwnP H.length (H ++ [⟨[], 3, false⟩]) (some ⟨H.length, 0, none⟩) ([] : List Rat) := .inr ⟨_, _, rfl, Nat.le_refl _, ilive_new _ _, rfl, rfl, Nat.zero_le _⟩
  have hlen : (trm f).length = k := by rw [trm_len, hk]
  have hsb : SL H a (trm f) := by unfold trm; rw [hk]; exact hs.take k h1
  obtain ⟨a', H2, q1, q2, q3, _⟩ := app_rats (lk := lk) (t := 23) (t2 := 23) te_Poly te_Poly (Ext.app H _) hO ((Ext.app H [⟨[], 3, false⟩]).sl hsb) hlk (by rw [hlen]; simp only [List.length_nil]; omega)
  rw [hlen, List.length_nil, Nat.zero_add] at q1
  exact ⟨a', H2, q1, q2, a', by rw [hlen], q3⟩
 rcases Nat.eq_zero_or_pos k with hk | hk
 ·subst hk
  rw [Int.natCast_zero] at h3 hcut
  obtain ⟨a', H2, q1, q2, q3⟩ := fin h2.symm
  simp -dsimp only [go_sem, h0, h3, reps, Int.lt_irrefl, hcut, q1]
  exact ⟨q2, q3⟩
 ·obtain ⟨j, rfl⟩ : ∃ j, k = j + 1 := ⟨k - 1, by omega⟩
  have hj : j < f.length := by omega
  obtain ⟨p, hp, hld⟩ := hs.ix j hj te_Poly
  have hld := hld H (Ext.refl H)
  have e1 : IntKind.i64.wrap (((j + 1 : Nat) : Int) - 1) = (j : Int) := by rw [w64 (by omega) (by omega)]; omega
  have hpos : (0 < ((j + 1 : Nat) : Int)) = True := by simp
  have e3 : trimQ f (j + 1) = if f[j] = 0 then trimQ f j else j + 1 := by simp [trimQ, List.getD, hj]
  have kz := fun lk H' => r3_Sign lk H' f[j]
  have sz := sgn_zero f[j]
  by_cases hz0 : f[j] = 0
  ·rw [if_pos hz0] at e3
   rw [eq_true hz0] at sz
   simp -dsimp only [go_sem, h0, h3, hpos, e1, hp, hld, kz, sz]
   exact next j (by show j < j + 1; omega) ⟨by omega, by rw [← e3, h2], rfl, h0, rfl⟩
  ·rw [if_neg hz0] at e3
   rw [eq_false hz0] at sz
   obtain ⟨a', H2, q1, q2, q3⟩ := fin (by rw [← h2, e3])
   simp -dsimp only [go_sem, h0, h3, hpos, e1, hp, hld, kz, sz, reps, hcut, q1]
   exact ⟨q2, q3⟩
theorem r6_at {H : Heap} {v : Value} {f : List Rat} (hv : LV H v f) (i : Nat) (lk : Nat) : gcall Tryz.prog md lk 78 [v, .int .i64 (i : Int)] H = some (vR (qf f i), H) := by
 obtain ⟨a, rfl, hs⟩ := hv
 refine gcall_val rfl Tryz.func78 rfl rfl ?_
 by_cases hi : i < f.length
 ·obtain ⟨p, hp, hld⟩ := hs.ix i hi te_Poly
  have hld := fun N => hld (H ++ N) (Ext.app H N)
  have f1 : ((i : Int) < (f.length : Int)) = True := eq_true (by omega)
  rw [qf_lt hi]
  simp -dsimp only [go_sem, f1, hp, hld]
 ·have f1 : ((i : Int) < (f.length : Int)) = False := eq_false (by omega)
  rw [qf_ge (by omega)]
  simp -dsimp only [go_sem, f1, r3_zero]
theorem r6_Lead {H : Heap} {v : Value} {f : List Rat} (hv : LV H v f) (hl : f.length ≤ 1000000) (lk : Nat) : gcall Tryz.prog md lk 120 [v] H = some (vR (qf f (f.length - 1)), H) := by
 obtain ⟨a, rfl, hs⟩ := hv
 refine gcall_val rfl Tryz.func120 rfl rfl ?_
 by_cases hi : f.length = 0
 ·have f1 : ((f.length : Int) = 0) = True := eq_true (by omega)
  rw [qf_ge (by omega)]
  simp -dsimp only [go_sem, f1, r3_zero]
 ·obtain ⟨p, hp, hld⟩ := hs.ix (f.length - 1) (by omega) te_Poly
  have hld := fun N => hld (H ++ N) (Ext.app H N)
  have f1 : ((f.length : Int) = 0) = False := eq_false (by omega)
  have e1 : IntKind.i64.wrap ((f.length : Int) - 1) = ((f.length - 1 : Nat) : Int) := by rw [w64 (by omega) (by omega)]; omega
  rw [qf_lt (by omega)]
  simp -dsimp only [go_sem, f1, e1, hp, hld]
theorem imax_nat (a b : Nat) : imax2 (.int .i64 (a : Int)) (.int .i64 (b : Int)) = some (.int .i64 ((max a b : Nat) : Int)) := by
 rw [imax2_eq]; congr 2; split <;> omega
def pAdd (f g : List Rat) : List Rat := trm (mapR (fun i => qf f i + qf g i) (max f.length g.length))
theorem r6_Add {H : Heap} {v w : Value} {f g : List Rat} (hv : LV H v f) (hw : LV H w g) (zf : SzL f) (zg : SzL g) (lf : f.length ≤ 500000) (lg : g.length ≤ 500000) :
  Yields 29 [v, w] H (fun v H' => OV H.length H' v (pAdd f g)) := by
 obtain ⟨a, rfl, hs⟩ := hv
 obtain ⟨b, rfl, ht⟩ := hw
 refine y_raw (by decide) Tryz.func29 rfl ?_
 intro lk hlk
 simp -dsimp only [go_sem]
 have hmx := imax_nat f.length g.length
 have hm1 : max f.length g.length ≤ 500000 := by omega
 unfold pAdd
 generalize max f.length g.length = mx at hmx hm1
 obtain ⟨F, hF⟩ : ∃ F : Nat → Rat, F = fun i => qf f i + qf g i := ⟨_, rfl⟩
 rw [← hF]
 refine r_loop (m := fun (s : Nat × Option Addr) => mx - s.1) (I := fun s σ H' => s.1 ≤ mx ∧ Ext H H' ∧ Own H.length H' s.2 (mapR F s.1) ∧ σ 0 = .slice a f.length f.length ∧ σ 1 = .slice b g.length g.length ∧ σ 5 = .slice s.2 s.1 s.1 ∧ σ 6 = .int .i64 (s.1 : Int)) (0, none) ⟨Nat.zero_le _, Ext.refl _, Own.nil, rfl, rfl, rfl, rfl⟩ ?_
 rintro ⟨i, c⟩ σ H' ⟨h1, hE, hO, s0, s1, s5, s6⟩
 simp only at h1 hO s5 s6
 have hlen := mapR_len F i
 by_cases hi : i < mx
 ·have f1 : ((i : Int) < ((mx : Nat) : Int)) = True := eq_true (by omega)
  have e7 : IntKind.i64.wrap ((i : Int) + 1) = ((i + 1 : Nat) : Int) := by rw [w64 (by omega) (by omega)]; omega
  have k1 := r6_at (v := .slice a f.length f.length) ⟨a, rfl, hE.sl hs⟩ i
  have k2 := r6_at (v := .slice b g.length g.length) ⟨b, rfl, hE.sl ht⟩ i
  have k3 := fun lk H' => r3_AddS lk H' (qf f i) (qf g i) (zf.qf i) (zg.qf i)
  have hFi : qf f i + qf g i = F i := by rw [hF]
  rw [hFi] at k3
  have hap := ap_rat (lk := lk) (t := 23) (t2 := 23) te_Poly te_Poly hO hlk hlen.symm (by omega) (F i)
  have hO2 := own_rat hE hO (F i) [⟨rC (F i), 3, false⟩]
  rw [← mapR_succ] at hO2
  simp -dsimp only [go_sem, s0, s1, s5, s6, hmx, f1, k1, k2, k3, reps, hap, e7]
  exact next (i + 1, _) (by show mx - (i + 1) < mx - i; omega) ⟨hi, ext_rat hE hO _ _, hO2, s0, s1, rfl, rfl⟩
 ·have hi' : i = mx := by omega
  subst hi'
  have f1 : ((i : Int) < ((i : Nat) : Int)) = False := eq_false (by omega)
  simp -dsimp only [go_sem, s0, s1, s5, s6, hmx, f1]
  refine ob_y (r6_Trim (f := mapR F i) (by omega) ⟨c, by rw [hlen], hO.sl⟩) (by have := hE.le; omega) ?_
  rintro v H2 hE2 ⟨a', rfl, hO'⟩
  simp -dsimp only [go_sem]
  exact ⟨hE.trans hE2, a', rfl, hO'.low hE.le⟩
def pScale (f : List Rat) (c : Rat) : List Rat := trm (f.map (· * c))
theorem r6_Scale {H : Heap} {v : Value} {f : List Rat} {c : Rat} (hv : LV H v f) (zf : SzL f) (zc : Sz c) (lf : f.length ≤ 1000000) :
  Yields 30 [v, vR c] H (fun v H' => OV H.length H' v (pScale f c)) := by
 obtain ⟨a, rfl, hs⟩ := hv
 refine y_raw (by decide) Tryz.func30 rfl ?_
 intro lk hlk
 simp -dsimp only [go_sem]
 unfold pScale
 obtain ⟨F, hF⟩ : ∃ F : Nat → Rat, F = fun i => qf f i * c := ⟨_, rfl⟩
 have hmap : f.map (· * c) = mapR F f.length := by
  apply List.ext_getElem (by simp [mapR])
  intro i h1 h2
  simp only [List.length_map] at h1
  simp [mapR, hF, qf_lt h1]
 rw [hmap]
 obtain ⟨H1, hH1⟩ : ∃ H1, H1 = H ++ [⟨rC c, 3, false⟩] := ⟨_, rfl⟩
 have hE0 : Ext H H1 := by rw [hH1]; exact Ext.app _ _
 have hb : ilive H1 H.length = some ⟨rC c, 3, false⟩ := by rw [hH1]; exact ilive_new _ _
 have hl0 := hE0.le
 rw [← hH1]
 refine r_loop (m := fun (s : Nat × Option Addr) => f.length - s.1) (I := fun s σ H' => s.1 ≤ f.length ∧ Ext H1 H' ∧ Own H1.length H' s.2 (mapR F s.1) ∧ σ 3 = .pointer (some ⟨H.length, 0, none⟩) ∧ σ 8 = .slice a f.length f.length ∧ σ 9 = .int .i64 (f.length : Int) ∧ σ 5 = .slice s.2 s.1 s.1 ∧ σ 10 = .int .i64 (s.1 : Int)) (0, none) ⟨Nat.zero_le _, Ext.refl _, Own.nil, rfl, rfl, rfl, rfl, rfl⟩ ?_
 rintro ⟨i, c2⟩ σ H' ⟨h1, hE, hO, s3, s8, s9, s5, s10⟩
 simp only at h1 hO s5 s10
 have hlen := mapR_len F i
 by_cases hi : i < f.length
 ·have f1 : ((i : Int) < (f.length : Int)) = True := eq_true (by omega)
  have e7 : IntKind.i64.wrap ((i : Int) + 1) = ((i + 1 : Nat) : Int) := by rw [w64 (by omega) (by omega)]; omega
  obtain ⟨p, hp, hld⟩ := hs.ix i hi te_Poly
  have hld := hld H' (hE0.trans hE)
  have hb' := fun N => ilive_app (N := N) (hE.live hb)
  have k3 := fun lk H' => r3_Mul lk H' f[i] c (zf.get hi) zc
  have hFi : f[i] * c = F i := by rw [hF, ← qf_lt hi]
  rw [hFi] at k3
  have hap := ap_rat' (lk := lk) (t := 23) (t2 := 23) te_Poly te_Poly hO (by omega) hlen.symm (by omega) (F i) ⟨rC f[i], 3, false⟩
  have hO2 := own_rat hE hO (F i) [⟨rC f[i], 3, false⟩, ⟨rC (F i), 3, false⟩]
  rw [← mapR_succ] at hO2
  simp -dsimp only [go_sem, s3, s5, s8, s9, s10, f1, hp, hld, hb', k3, reps, hap, e7]
  refine ⟨by have := hE.le; omega, ?_⟩
  exact next (i + 1, _) (by show f.length - (i + 1) < f.length - i; omega) ⟨hi, ext_rat hE hO _ _, hO2, s3, s8, s9, rfl, rfl⟩
 ·have hi' : i = f.length := by omega
  subst hi'
  have f1 : ((f.length : Int) < (f.length : Int)) = False := eq_false (by omega)
  simp -dsimp only [go_sem, s3, s5, s8, s9, s10, f1]
  refine ob_y (r6_Trim (f := mapR F f.length) (by omega) ⟨c2, by rw [hlen], hO.sl⟩) (by have := hE.le; omega) ?_
  rintro v H2 hE2 ⟨a', rfl, hO'⟩
  simp -dsimp only [go_sem]
  exact ⟨hE0.trans (hE.trans hE2), a', rfl, hO'.low (by have := hE.le; omega)⟩
def pSub (f g : List Rat) : List Rat := pAdd f (pScale g (-1))
theorem szL_trm {f : List Rat} (h : SzL f) : SzL (trm f) := fun x hx => h x (List.mem_of_mem_take hx)
theorem sz_mone : Sz (-1) := Sm.mono (k := 1) ⟨bl_le (by decide), bl_le (by decide)⟩ (by decide)
theorem szL_scale_neg {f : List Rat} (h : SzL f) : SzL (pScale f (-1)) := by
 refine szL_trm fun x hx => ?_
 obtain ⟨y, hy, rfl⟩ := List.mem_map.1 hx
 have : y * (-1 : Rat) = -y := by rw [Rat.mul_neg, Rat.mul_one]
 rw [this]; exact sm_neg (h y hy)
theorem pScale_le (f : List Rat) (c : Rat) : (pScale f c).length ≤ f.length := by
 have := trm_le (f.map (· * c)); rw [List.length_map] at this; exact this
theorem r6_Sub {H : Heap} {v w : Value} {f g : List Rat} (hv : LV H v f) (hw : LV H w g) (zf : SzL f) (zg : SzL g) (lf : f.length ≤ 500000) (lg : g.length ≤ 500000) :
  Yields 42 [v, w] H (fun v H' => OV H.length H' v (pSub f g)) := by
 refine y_raw (by decide) Tryz.func42 rfl ?_
 intro lk hlk
 simp -dsimp only [go_sem, r3_mone]
 refine ob_y (r6_Scale hw zg sz_mone (by omega)) hlk ?_
 rintro w2 H2 hE2 hO2
 simp -dsimp only [go_sem]
 refine ob_y (r6_Add (hv.ext hE2) hO2.lv zf (szL_scale_neg zg) lf (Nat.le_trans (pScale_le _ _) lg)) (by have := hE2.le; omega) ?_
 rintro w3 H3 hE3 ⟨a', rfl, hO'⟩
 simp -dsimp only [go_sem]
 exact ⟨hE2.trans hE3, a', rfl, hO'.low hE2.le⟩
def pMono (c : Rat) (n : Nat) : List Rat := trm (List.replicate n 0 ++ [c])
theorem r6_Monomial {H : Heap} (c : Rat) (n : Nat) (hn : n ≤ 500000) : Yields 110 [vR c, .int .i64 (n : Int)] H (fun v H' => OV H.length H' v (pMono c n)) := by
 refine y_raw (by decide) Tryz.func110 rfl ?_
 intro lk hlk
 simp -dsimp only [go_sem]
 obtain ⟨H1, hH1⟩ : ∃ H1, H1 = H ++ [⟨rC c, 3, false⟩] := ⟨_, rfl⟩
 have hE0 : Ext H H1 := by rw [hH1]; exact Ext.app _ _
 have hb : ilive H1 H.length = some ⟨rC c, 3, false⟩ := by rw [hH1]; exact ilive_new _ _
 have hl0 := hE0.le
 rw [← hH1]
 have hrep : ∀ i, List.replicate i (0 : Rat) = mapR (fun _ => 0) i := fun i => by
  apply List.ext_getElem (by simp [mapR])
  intro j h1 h2
  simp [mapR]
 refine r_loop (m := fun (s : Nat × Option Addr) => n - s.1) (I := fun s σ H' => s.1 ≤ n ∧ Ext H1 H' ∧ Own H1.length H' s.2 (mapR (fun _ => 0) s.1) ∧ σ 2 = .pointer (some ⟨H.length, 0, none⟩) ∧ σ 1 = .int .i64 (n : Int) ∧ σ 5 = .slice s.2 s.1 s.1 ∧ σ 6 = .int .i64 (s.1 : Int)) (0, none) ⟨Nat.zero_le _, Ext.refl _, Own.nil, rfl, rfl, rfl, rfl⟩ ?_
 rintro ⟨i, c2⟩ σ H' ⟨h1, hE, hO, s2, s1, s5, s6⟩
 simp only at h1 hO s5 s6
 have hlen := mapR_len (fun _ => 0) i
 by_cases hi : i < n
 ·have f1 : ((i : Int) < (n : Int)) = True := eq_true (by omega)
  have e7 : IntKind.i64.wrap ((i : Int) + 1) = ((i + 1 : Nat) : Int) := by rw [w64 (by omega) (by omega)]; omega
  have hap := ap_rat (lk := lk) (t := 23) (t2 := 23) te_Poly te_Poly hO (by omega) hlen.symm (by omega) 0
  have hO2 := own_rat hE hO 0 [⟨rC 0, 3, false⟩]
  rw [← mapR_succ (fun _ => 0)] at hO2
  simp -dsimp only [go_sem, s1, s2, s5, s6, f1, r3_zero, reps, hap, e7]
  exact next (i + 1, _) (by show n - (i + 1) < n - i; omega) ⟨hi, ext_rat hE hO _ _, hO2, s2, s1, rfl, rfl⟩
 ·have hi' : i = n := by omega
  subst hi'
  have f1 : ((i : Int) < (i : Int)) = False := eq_false (by omega)
  have hb' := fun N => ilive_app (N := N) (hE.live hb)
  have hb2 := hE.live hb
  have hap := ap_rat (lk := lk) (t := 23) (t2 := 23) te_Poly te_Poly hO (by omega) hlen.symm (by omega) c
  have hO2 := own_rat hE hO c [⟨rC c, 3, false⟩]
  have hE2 := ext_rat hE hO [⟨rC c, 3, false⟩] [⟨cells (mapR (fun _ => 0) i) ++ rC c, 3, false⟩]
  simp -dsimp only [go_sem, s1, s2, s5, s6, f1, hb2, reps, hap]
  simp only [List.length_cons, List.length_nil, Nat.zero_add] at hO2
  refine ob_y (r6_Trim (f := mapR (fun _ => 0) i ++ [c]) (by simp [mapR]; omega) ⟨some ⟨H'.length + 1, 0, none⟩, by rw [List.length_append, hlen]; rfl, hO2.sl⟩) (by have := hE2.le; omega) ?_
  rintro v H2 hE3 ⟨a', rfl, hO'⟩
  simp -dsimp only [go_sem]
  unfold pMono
  rw [hrep]
  exact ⟨hE0.trans (hE2.trans hE3), a', rfl, hO'.low (by have := hE2.le; omega)⟩
def mulTo (f g : List Rat) (k : Nat) : Nat → Rat
 | 0 => 0
 | i + 1 => if i ≤ k ∧ k - i < g.length then mulTo f g k i + qf f i * qf g (k - i) else mulTo f g k i
def pMul (f g : List Rat) : List Rat := trm (mapR (fun k => mulTo f g k f.length) (f.length + g.length - 1))
structure MulOk (f g : List Rat) : Prop where
 zf : SzL f
 zg : SzL g
 p : ∀ i j, Sz (qf f i * qf g j)
 s : ∀ k i, Sz (mulTo f g k i)
theorem r6_Mul {H : Heap} {v w : Value} {f g : List Rat} (hv : LV H v f) (hw : LV H w g) (ok : MulOk f g) (lf : f.length ≤ 400000) (lg : g.length ≤ 400000) :
  Yields 82 [v, w] H (fun v H' => OV H.length H' v (pMul f g)) := by
 obtain ⟨a, rfl, hs⟩ := hv
 obtain ⟨b, rfl, ht⟩ := hw
 refine y_raw (by decide) Tryz.func82 rfl ?_
 intro lk hlk
 simp -dsimp only [go_sem]
 unfold pMul
 obtain ⟨F, hF⟩ : ∃ F : Nat → Rat, F = fun k => mulTo f g k f.length := ⟨_, rfl⟩
 rw [← hF]
 have w1 : IntKind.i64.wrap ((f.length : Int) + (g.length : Int)) = (f.length : Int) + (g.length : Int) := by rw [w64 (by omega) (by omega)]
 have w2 : IntKind.i64.wrap ((f.length : Int) + (g.length : Int) - 1) = (f.length : Int) + (g.length : Int) - 1 := by rw [w64 (by omega) (by omega)]
 refine r_loop (m := fun (s : Nat × Option Addr) => f.length + g.length - 1 - s.1) (I := fun s σ H' => s.1 ≤ f.length + g.length - 1 ∧ Ext H H' ∧ Own H.length H' s.2 (mapR F s.1) ∧ σ 0 = .slice a f.length f.length ∧ σ 1 = .slice b g.length g.length ∧ σ 5 = .slice s.2 s.1 s.1 ∧ σ 6 = .int .i64 (s.1 : Int)) (0, none) ⟨Nat.zero_le _, Ext.refl _, Own.nil, rfl, rfl, rfl, rfl⟩ ?_
 rintro ⟨k, c⟩ σ H' ⟨h1, hE, hO, s0, s1, s5, s6⟩
 simp only at h1 hO s5 s6
 have hlen := mapR_len F k
 by_cases hi : k < f.length + g.length - 1
 ·have f1 : ((k : Int) < (f.length : Int) + (g.length : Int) - 1) = True := eq_true (by omega)
  have hlo : lk ≤ H'.length := Nat.le_trans hlk hE.le
  simp -dsimp only [go_sem, s0, s1, s5, s6, w1, w2, f1, r3_zero, hlo]
  refine r_loop (m := fun (i : Nat) => f.length - i) (I := fun i σ H2 => i ≤ f.length ∧ H2 = H' ++ [⟨rC (mulTo f g k i), 3, false⟩] ∧ σ 0 = .slice a f.length f.length ∧ σ 1 = .slice b g.length g.length ∧ σ 5 = .slice c k k ∧ σ 6 = .int .i64 (k : Int) ∧ σ 7 = .pointer (some ⟨H'.length, 0, none⟩) ∧ σ 21 = .int .i64 (f.length : Int) ∧ σ 22 = .int .i64 (i : Int)) 0 ⟨Nat.zero_le _, rfl, s0, s1, s5, s6, rfl, rfl, rfl⟩ ?_
  clear s0 s1 s5 s6
  rintro i σ H2 ⟨h2, rfl, s0, s1, s5, s6, s7, s21, s22⟩
  have e7 : IntKind.i64.wrap ((i : Int) + 1) = ((i + 1 : Nat) : Int) := by rw [w64 (by omega) (by omega)]; omega
  by_cases hil : i < f.length
  ·have f2 : ((i : Int) < (f.length : Int)) = True := eq_true (by omega)
   by_cases hik : i ≤ k
   ·have e8 : IntKind.i64.wrap ((k : Int) - (i : Int)) = ((k - i : Nat) : Int) := by rw [w64 (by omega) (by omega)]; omega
    have f3 : (0 ≤ ((k - i : Nat) : Int)) = True := eq_true (by omega)
    by_cases hkg : k - i < g.length
    ·have f4 : (((k - i : Nat) : Int) < (g.length : Int)) = True := eq_true (by omega)
     obtain ⟨p, hp, hld⟩ := hs.ix i hil te_Poly
     obtain ⟨q, hq, hld2⟩ := ht.ix (k - i) hkg te_Poly
     have hld := hld _ (hE.more [⟨rC (mulTo f g k i), 3, false⟩])
     have hld2 := hld2 _ (hE.more [⟨rC (mulTo f g k i), 3, false⟩])
     rw [← qf_lt hil] at hld
     rw [← qf_lt hkg] at hld2
     have k1 := fun lk H' => r3_Mul lk H' (qf f i) (qf g (k - i)) (ok.zf.qf _) (ok.zg.qf _)
     have k2 := fun lk H' => r3_AddS lk H' (mulTo f g k i) (qf f i * qf g (k - i)) (ok.s _ _) (ok.p _ _)
     have hst : mulTo f g k i + qf f i * qf g (k - i) = mulTo f g k (i + 1) := by rw [mulTo, if_pos ⟨hik, hkg⟩]
     rw [hst] at k2
     simp -dsimp only [go_sem, s0, s1, s5, s6, s7, s21, s22, f2, f3, f4, e7, e8, hp, hld, hq, hld2, k1, k2, hlo]
     exact next (i + 1) (by show f.length - (i + 1) < f.length - i; omega) ⟨hil, rfl, s0, s1, s5, s6, s7, s21, rfl⟩
    ·have f4 : (((k - i : Nat) : Int) < (g.length : Int)) = False := eq_false (by omega)
     simp -dsimp only [go_sem, s0, s1, s5, s6, s7, s21, s22, f2, f3, f4, e7, e8]
     exact next (i + 1) (by show f.length - (i + 1) < f.length - i; omega) ⟨hil, by rw [mulTo, if_neg (fun h => hkg h.2)], s0, s1, s5, s6, s7, s21, rfl⟩
   ·have e8 : IntKind.i64.wrap ((k : Int) - (i : Int)) = (k : Int) - (i : Int) := by rw [w64 (by omega) (by omega)]
    have f3 : (0 ≤ (k : Int) - (i : Int)) = False := eq_false (by omega)
    simp -dsimp only [go_sem, s0, s1, s5, s6, s7, s21, s22, f2, f3, e7, e8]
    exact next (i + 1) (by show f.length - (i + 1) < f.length - i; omega) ⟨hil, by rw [mulTo, if_neg (fun h => hik h.1)], s0, s1, s5, s6, s7, s21, rfl⟩
  ·have hi' : i = f.length := by omega
   subst hi'
   have f2 : ((f.length : Int) < (f.length : Int)) = False := eq_false (by omega)
   have hFk : mulTo f g k f.length = F k := by rw [hF]
   rw [hFk]
   have hap := ap_rat' (lk := lk) (t := 23) (t2 := 23) te_Poly te_Poly hO hlk hlen.symm (by omega) (F k) ⟨rC (F k), 3, false⟩
   have hO2 := own_rat hE hO (F k) [⟨rC (F k), 3, false⟩, ⟨rC (F k), 3, false⟩]
   rw [← mapR_succ] at hO2
   have e9 : IntKind.i64.wrap ((k : Int) + 1) = ((k + 1 : Nat) : Int) := by rw [w64 (by omega) (by omega)]; omega
   simp -dsimp only [go_sem, s0, s1, s5, s6, s7, s21, s22, f2, reps, hap, e9]
   exact next (k + 1, _) (by show f.length + g.length - 1 - (k + 1) < f.length + g.length - 1 - k; omega) ⟨hi, ext_rat hE hO _ _, hO2, s0, s1, rfl, rfl⟩
 ·have hi' : k = f.length + g.length - 1 := by omega
  subst hi'
  have f1 : (((f.length + g.length - 1 : Nat) : Int) < (f.length : Int) + (g.length : Int) - 1) = False := eq_false (by omega)
  simp -dsimp only [go_sem, s0, s1, s5, s6, w1, w2, f1]
  refine ob_y (r6_Trim (f := mapR F (f.length + g.length - 1)) (by omega) ⟨c, by rw [hlen], hO.sl⟩) (by have := hE.le; omega) ?_
  rintro v H2 hE2 ⟨a', rfl, hO'⟩
  simp -dsimp only [go_sem]
  exact ⟨hE.trans hE2, a', rfl, hO'.low hE.le⟩
def pDer (f : List Rat) : List Rat := trm (mapR (fun i => qf f (i + 1) * ((i + 1 : Nat) : Int)) (f.length - 1))
def pMonic (f : List Rat) : List Rat := if f = [] then [] else pScale f (qf f (f.length - 1))⁻¹
theorem r6_Same {H : Heap} {v w : Value} {f g : List Rat} (hv : LV H v f) (hw : LV H w g) (lf : f.length ≤ 1000000) (lg : g.length ≤ 1000000) (lk : Nat) : gcall Tryz.prog md lk 13 [v, w] H = some (.bool (decide (f = g)), H) := by
 obtain ⟨a, rfl, hs⟩ := hv
 obtain ⟨b, rfl, ht⟩ := hw
 refine gcall_val rfl Tryz.func13 rfl rfl ?_
 by_cases hl : f.length = g.length
 ·have f1 : ((f.length : Int) = (g.length : Int)) = True := eq_true (by omega)
  simp -dsimp only [go_sem, f1]
  refine r_loop (m := fun (i : Nat) => f.length - i) (I := fun i σ H2 => i ≤ f.length ∧ f.take i = g.take i ∧ H2 = H ∧ σ 0 = .slice a f.length f.length ∧ σ 1 = .slice b g.length g.length ∧ σ 12 = .int .i64 (f.length : Int) ∧ σ 13 = .int .i64 (i : Int)) 0 ⟨Nat.zero_le _, rfl, rfl, rfl, rfl, rfl, rfl⟩ ?_
  rintro i σ H2 ⟨h2, h3, rfl, s0, s1, s12, s13⟩
  by_cases hi : i < f.length
  ·have f2 : ((i : Int) < (f.length : Int)) = True := eq_true (by omega)
   have e7 : IntKind.i64.wrap ((i : Int) + 1) = ((i + 1 : Nat) : Int) := by rw [w64 (by omega) (by omega)]; omega
   obtain ⟨p, hp, hld⟩ := hs.ix i hi te_Poly
   obtain ⟨q, hq, hld2⟩ := ht.ix i (by omega) te_Poly
   have hld := hld _ (Ext.refl _)
   have hld2 := hld2 _ (Ext.refl _)
   by_cases he : f[i] = g[i]
   ·simp -dsimp only [go_sem, s0, s1, s12, s13, f2, e7, hp, hld, hq, hld2, he]
    refine next (i + 1) (by show f.length - (i + 1) < f.length - i; omega) ⟨hi, ?_, rfl, s0, s1, s12, rfl⟩
    rw [List.take_add_one, List.take_add_one, List.getElem?_eq_getElem hi, List.getElem?_eq_getElem (show i < g.length by omega), h3, he]
   ·have hne : (f = g) = False := eq_false (fun h => he (by subst h; rfl))
    simp -dsimp only [go_sem, s0, s1, s12, s13, f2, e7, hp, hld, hq, hld2, he, hne]
  ·have hi' : i = f.length := by omega
   subst hi'
   have f2 : ((f.length : Int) < (f.length : Int)) = False := eq_false (by omega)
   have he : (f = g) = True := eq_true (by rw [List.take_length, hl, List.take_length] at h3; exact h3)
   simp -dsimp only [go_sem, s0, s1, s12, s13, f2, he]
 ·have f1 : ((f.length : Int) = (g.length : Int)) = False := eq_false (by omega)
  have hne : (f = g) = False := eq_false (fun h => hl (by rw [h]))
  simp -dsimp only [go_sem, f1, hne]
theorem qf_take {f : List Rat} {n : Nat} (h : ∀ i, n ≤ i → qf f i = 0) (i : Nat) : qf (f.take n) i = qf f i := by
 by_cases hi : i < n
 ·unfold qf; simp only [List.getD_eq_getElem?_getD, List.getElem?_take, if_pos hi]
 ·rw [h i (by omega)]; unfold qf; simp only [List.getD_eq_getElem?_getD, List.getElem?_take, if_neg hi, Option.getD_none]
theorem trimQ_zero (f : List Rat) : ∀ k i, trimQ f k ≤ i → i < k → qf f i = 0
 | 0, i, _, h => by omega
 | k + 1, i, h1, h2 => by
  unfold trimQ at h1
  split at h1
  ·rename_i h0
   by_cases hik : i = k
   ·subst hik; exact h0
   ·exact trimQ_zero f k i h1 (by omega)
  ·omega
theorem qf_trm (f : List Rat) (i : Nat) : qf (trm f) i = qf f i := by
 refine qf_take (fun j hj => ?_) i
 by_cases h : j < f.length
 ·exact trimQ_zero f f.length j hj h
 ·exact qf_ge (by omega)
theorem trimQ_bound (f : List Rat) (k : Nat) (hk : ∀ i, k ≤ i → qf f i = 0) : ∀ m, trimQ f m ≤ k
 | 0 => Nat.zero_le _
 | m + 1 => by
  unfold trimQ
  split
  ·exact trimQ_bound f k hk m
  ·rename_i h
   apply Nat.le_of_not_lt
   intro hlt
   exact h (hk m (by omega))
theorem trm_bound {f : List Rat} {k : Nat} (hk : ∀ i, k ≤ i → qf f i = 0) : (trm f).length ≤ k := by rw [trm_len]; exact trimQ_bound f k hk _
def Nrm (f : List Rat) : Prop := f ≠ [] → qf f (f.length - 1) ≠ 0
theorem trimQ_last (f : List Rat) : ∀ k, trimQ f k ≠ 0 → qf f (trimQ f k - 1) ≠ 0
 | 0, h => absurd rfl h
 | k + 1, h => by
  unfold trimQ at h ⊢
  split
  ·rename_i h0
   rw [if_pos h0] at h
   exact trimQ_last f k h
  ·rename_i h0; exact h0
theorem nrm_trm (f : List Rat) : Nrm (trm f) := by
 intro h
 rw [qf_trm, trm_len]
 exact trimQ_last f _ (fun h0 => h (List.eq_nil_of_length_eq_zero (by rw [trm_len, h0])))
theorem nrm_nil : Nrm [] := fun h => absurd rfl h
theorem trimQ_full (f : List Rat) (h : Nrm f) : trimQ f f.length = f.length := by
 cases hl : f.length with
 | zero => rfl
 | succ k =>
  have h1 := h (by intro h2; subst h2; cases hl)
  rw [hl, Nat.add_sub_cancel] at h1
  unfold trimQ; exact if_neg h1
theorem trm_id {f : List Rat} (h : Nrm f) : trm f = f := by unfold trm; rw [trimQ_full f h, List.take_length]
theorem nrm_ext {f g : List Rat} (hf : Nrm f) (hg : Nrm g) (h : ∀ i, qf f i = qf g i) : f = g := by
 have key : ∀ {f g : List Rat}, Nrm f → (∀ i, qf f i = qf g i) → f.length ≤ g.length := fun {f g} hf h => by
  apply Nat.le_of_not_lt
  intro hlt
  have h1 := hf (by intro h0; subst h0; simp at hlt)
  rw [h, qf_ge (by omega)] at h1
  exact h1 rfl
 have hl : f.length = g.length := Nat.le_antisymm (key hf h) (key hg fun i => (h i).symm)
 refine List.ext_getElem hl fun i h1 h2 => ?_
 have := h i
 rwa [qf_lt h1, qf_lt h2] at this
theorem qf_mapR (F : Nat → Rat) (n i : Nat) : qf (mapR F n) i = if i < n then F i else 0 := by
 by_cases hi : i < n
 ·rw [if_pos hi, qf_lt (by rw [mapR_len]; exact hi)]; simp [mapR]
 ·rw [if_neg hi, qf_ge (by rw [mapR_len]; omega)]
theorem qf_add (f g : List Rat) (i : Nat) : qf (pAdd f g) i = qf f i + qf g i := by
 unfold pAdd
 rw [qf_trm, qf_mapR]
 split
 ·rfl
 ·rw [qf_ge (f := f) (by omega), qf_ge (f := g) (by omega), Rat.add_zero]
theorem qf_map (f : List Rat) (c : Rat) (i : Nat) : qf (f.map (· * c)) i = qf f i * c := by
 by_cases hi : i < f.length
 ·rw [qf_lt (by rw [List.length_map]; exact hi), qf_lt hi, List.getElem_map]
 ·rw [qf_ge (by rw [List.length_map]; omega), qf_ge (by omega), Rat.zero_mul]
theorem qf_scale (f : List Rat) (c : Rat) (i : Nat) : qf (pScale f c) i = qf f i * c := by unfold pScale; rw [qf_trm, qf_map]
theorem qf_sub (f g : List Rat) (i : Nat) : qf (pSub f g) i = qf f i - qf g i := by
 unfold pSub; rw [qf_add, qf_scale, Rat.sub_eq_add_neg, Rat.mul_neg, Rat.mul_one]
theorem qf_mono (c : Rat) (n i : Nat) : qf (pMono c n) i = if i = n then c else 0 := by
 unfold pMono
 rw [qf_trm]
 by_cases h1 : i < n
 ·rw [if_neg (by omega), qf_lt (by simp; omega), List.getElem_append_left (by simpa using h1)]; simp
 ·by_cases h2 : i = n
  ·subst h2
   rw [if_pos rfl, qf_lt (by simp), List.getElem_append_right (by simp)]; simp
  ·rw [if_neg h2, qf_ge (by simp; omega)]
theorem qf_pMul (f g : List Rat) (k : Nat) : qf (pMul f g) k = mulTo f g k f.length := by
 unfold pMul
 rw [qf_trm, qf_mapR]
 split
 ·rfl
 ·rename_i hk
  have key : ∀ i, i ≤ f.length → mulTo f g k i = 0 := by
   intro i
   induction i with
   | zero => intro _; rfl
   | succ i ih =>
    intro hi
    rw [mulTo]
    split
    ·omega
    ·exact ih (by omega)
  exact (key _ (Nat.le_refl _)).symm
theorem mulTo_one {f g : List Rat} {n : Nat} (hf : ∀ i, i ≠ n → qf f i = 0) (k : Nat) : ∀ i, mulTo f g k i = if n < i ∧ n ≤ k then qf f n * qf g (k - n) else 0
 | 0 => by rw [if_neg (by omega)]; rfl
 | i + 1 => by
  rw [mulTo, mulTo_one hf k i]
  by_cases hin : i = n
  ·subst hin
   rw [if_neg (by omega : ¬ (i < i ∧ i ≤ k))]
   by_cases hik : i ≤ k
   ·rw [if_pos (⟨by omega, hik⟩ : i < i + 1 ∧ i ≤ k)]
    by_cases hg : k - i < g.length
    ·rw [if_pos ⟨hik, hg⟩, Rat.zero_add]
    ·rw [if_neg (fun h => hg h.2), qf_ge (f := g) (by omega), Rat.mul_zero]
   ·rw [if_neg (fun h => hik h.1), if_neg (fun h => hik h.2)]
  ·rw [hf i hin, Rat.zero_mul, Rat.add_zero, ite_self]
   by_cases h : n < i ∧ n ≤ k
   ·rw [if_pos h, if_pos ⟨by omega, h.2⟩]
   ·rw [if_neg h, if_neg (fun h2 => h ⟨by omega, h2.2⟩)]
theorem qf_mono_mul (c : Rat) (n : Nat) (g : List Rat) (k : Nat) : qf (pMul (pMono c n) g) k = if n ≤ k then c * qf g (k - n) else 0 := by
 rw [qf_pMul, mulTo_one (n := n) (fun i hi => by rw [qf_mono, if_neg hi])]
 rw [qf_mono, if_pos rfl]
 by_cases h : n ≤ k
 ·by_cases hl : n < (pMono c n).length
  ·rw [if_pos ⟨hl, h⟩, if_pos h]
  ·have : c = 0 := by
    have := qf_mono c n n
    rw [if_pos rfl, qf_ge (by omega)] at this
    exact this.symm
   rw [if_neg (fun x => hl x.1), if_pos h, this, Rat.zero_mul]
 ·rw [if_neg (fun x => h x.2), if_neg h]
theorem nrm_add (f g : List Rat) : Nrm (pAdd f g) := nrm_trm _
theorem nrm_sub (f g : List Rat) : Nrm (pSub f g) := nrm_trm _
theorem nrm_mul (f g : List Rat) : Nrm (pMul f g) := nrm_trm _
theorem pAdd_le (f g : List Rat) : (pAdd f g).length ≤ max f.length g.length := by
 have := trm_le (mapR (fun i => qf f i + qf g i) (max f.length g.length)); rw [mapR_len] at this; exact this
theorem pSub_le (f g : List Rat) : (pSub f g).length ≤ max f.length g.length := by
 have h1 := pAdd_le f (pScale g (-1)); have h2 := pScale_le g (-1); unfold pSub; omega
theorem pMul_le (f g : List Rat) : (pMul f g).length ≤ f.length + g.length - 1 := by
 have := trm_le (mapR (fun k => mulTo f g k f.length) (f.length + g.length - 1)); rw [mapR_len] at this; exact this
theorem pMono_le (c : Rat) (n : Nat) : (pMono c n).length ≤ n + 1 := by
 have := trm_le (List.replicate n 0 ++ [c]); simpa [pMono] using this
def dvM (g r : List Rat) : List Rat := pMono (qf r (r.length - 1) / qf g (g.length - 1)) (r.length - g.length)
def dvLoop (g : List Rat) : Nat → List Rat → List Rat → List Rat × List Rat
 | 0, q, r => (q, r)
 | n + 1, q, r => if g.length ≤ r.length then dvLoop g n (pAdd q (dvM g r)) (pSub r (pMul (dvM g r) g)) else (q, r)
def pDivMod (f g : List Rat) : List Rat × List Rat := dvLoop g (f.length + 1) [] (trm f)
def DvOkL (g : List Rat) : Nat → List Rat → List Rat → Prop
 | 0, _, _ => True
 | n + 1, q, r => if g.length ≤ r.length then SzL q ∧ SzL r ∧ SzL (dvM g r) ∧ MulOk (dvM g r) g ∧ SzL (pMul (dvM g r) g) ∧ DvOkL g n (pAdd q (dvM g r)) (pSub r (pMul (dvM g r) g)) else True
def DvOk (f g : List Rat) : Prop := SzL g ∧ DvOkL g (f.length + 1) [] (trm f)
theorem dv_short {g r : List Rat} (hg0 : g ≠ []) (hg : Nrm g) (hl : g.length ≤ r.length) : (pSub r (pMul (dvM g r) g)).length < r.length := by
 have hgl : 0 < g.length := List.length_pos_iff.2 hg0
 have : (pSub r (pMul (dvM g r) g)).length ≤ r.length - 1 := by
  unfold pSub
  refine trm_bound fun i hi => ?_
  have h1 := qf_sub r (pMul (dvM g r) g) i
  unfold pSub at h1
  unfold pAdd at h1
  rw [qf_trm] at h1
  rw [h1]
  unfold dvM
  rw [qf_mono_mul]
  rw [if_pos (by omega)]
  by_cases hi2 : i = r.length - 1
  ·subst hi2
   have e : r.length - 1 - (r.length - g.length) = g.length - 1 := by omega
   rw [e, Rat.div_mul_cancel (hg hg0), Rat.sub_self]
  ·rw [qf_ge (f := r) (i := i) (by omega), qf_ge (f := g) (i := i - (r.length - g.length)) (by omega), Rat.mul_zero, Rat.sub_self]
 omega
theorem dvLoop_done {g : List Rat} {n : Nat} {q r : List Rat} (h : ¬ g.length ≤ r.length) : dvLoop g n q r = (q, r) := by
 cases n with
 | zero => rfl
 | succ n => rw [dvLoop, if_neg h]
theorem r6_DivMod {H : Heap} {v w : Value} {f g : List Rat} (hv : LV H v f) (hw : LV H w g) (hg0 : g ≠ []) (hg : Nrm g) (ok : DvOk f g) (lf : f.length ≤ 200000) (lg : g.length ≤ 200000) :
  Yields 168 [v, w] H (fun v H' => ∃ q r, v = .tuple #[q, r] ∧ LV H' q (pDivMod f g).1 ∧ OV H.length H' r (pDivMod f g).2) := by
 obtain ⟨zg, ok⟩ := ok
 obtain ⟨b, rfl, ht⟩ := hw
 have hk2 : ∀ H', Ext H H' → ∀ lk, gcall Tryz.prog md lk 120 [.slice b g.length g.length] H' = some (vR (qf g (g.length - 1)), H') := fun H' hE lk => r6_Lead ⟨b, rfl, hE.sl ht⟩ (by omega) lk
 refine y_raw (by decide) Tryz.func168 rfl ?_
 intro lk hlk
 simp -dsimp only [go_sem]
 refine ob_y (r6_Trim (by omega) hv) hlk ?_
 rintro v1 H1 hE1 hO1
 simp -dsimp only [go_sem]
 unfold pDivMod
 refine r_loop (m := fun (s : Nat × List Rat × List Rat × Value × Value) => s.2.2.1.length) (I := fun s σ H' => s.2.1.length ≤ 200000 ∧ s.2.2.1.length < s.1 ∧ s.2.2.1.length ≤ f.length ∧ Ext H H' ∧ LV H' s.2.2.2.1 s.2.1 ∧ OV H.length H' s.2.2.2.2 s.2.2.1 ∧ DvOkL g s.1 s.2.1 s.2.2.1 ∧ dvLoop g s.1 s.2.1 s.2.2.1 = dvLoop g (f.length + 1) [] (trm f) ∧ σ 1 = .slice b g.length g.length ∧ σ 6 = s.2.2.2.1 ∧ σ 7 = s.2.2.2.2) (f.length + 1, [], trm f, .slice none 0 0, v1) ⟨Nat.zero_le _, by have := trm_le f; simp only; omega, trm_le f, hE1, LV.nil, hO1, ok, rfl, rfl, rfl, rfl⟩ ?_
 rintro ⟨n, q, r, vq, vr⟩ σ H' ⟨h1, h2, h3, hE, hq, hr, ok, he, s1, s6, s7⟩
 simp only at h1 h2 h3 hq hr ok he s6 s7
 obtain ⟨c, rfl, hO⟩ := hr
 have hgl : 0 < g.length := List.length_pos_iff.2 hg0
 have hlo := hE.le
 by_cases hlen : g.length ≤ r.length
 ·have f1 : ((g.length : Int) ≤ (r.length : Int)) = True := eq_true (by omega)
  obtain ⟨n, rfl⟩ : ∃ n', n = n' + 1 := ⟨n - 1, by omega⟩
  rw [DvOkL, if_pos hlen] at ok
  rw [dvLoop, if_pos hlen] at he
  obtain ⟨zq, zr, zm, om, zp, ok⟩ := ok
  have hsh := dv_short hg0 hg hlen
  have kr := fun lk => r6_Lead (v := .slice c r.length r.length) ⟨c, rfl, hO.sl⟩ (by omega) lk
  have kg := hk2 H' hE
  have kd := fun lk H' => r3_Div lk H' (qf r (r.length - 1)) (qf g (g.length - 1)) (zr.qf _) (zg.qf _) (hg hg0)
  have e1 : IntKind.i64.wrap ((r.length : Int) - (g.length : Int)) = ((r.length - g.length : Nat) : Int) := by rw [w64 (by omega) (by omega)]; omega
  simp -dsimp only [go_sem, s1, s6, s7, f1, kr, kg, kd, e1]
  have hml := pMono_le (qf r (r.length - 1) / qf g (g.length - 1)) (r.length - g.length)
  refine ob_y (r6_Monomial (qf r (r.length - 1) / qf g (g.length - 1)) (r.length - g.length) (by omega)) (by omega) ?_
  change (dvM g r).length ≤ _ at hml
  rw [show pMono (qf r (r.length - 1) / qf g (g.length - 1)) (r.length - g.length) = dvM g r from rfl]
  rintro vm H2 hE2 hm
  have hl2 := hE2.le
  simp -dsimp only [go_sem, s1, s6, s7]
  refine ob_y (r6_Add (hq.ext hE2) hm.lv zq zm (by omega) (by omega)) (by omega) ?_
  rintro vq2 H3 hE3 hq3
  have hl3 := hE3.le
  simp -dsimp only [go_sem, s1, s7]
  refine ob_y (r6_Mul (hm.lv.ext hE3) ⟨b, rfl, (hE.trans (hE2.trans hE3)).sl ht⟩ om (by omega) (by omega)) (by omega) ?_
  rintro vp H4 hE4 hp4
  have hl4 := hE4.le
  simp -dsimp only [go_sem, s1, s7]
  have hpl := pMul_le (dvM g r) g
  refine ob_y (r6_Sub ⟨c, rfl, (hE2.trans (hE3.trans hE4)).sl hO.sl⟩ hp4.lv zr zp (by omega) (by omega)) (by omega) ?_
  rintro vr2 H5 hE5 ⟨c5, rfl, hO5⟩
  have hl5 := hE5.le
  simp -dsimp only [go_sem, s1]
  have hal := pAdd_le q (dvM g r)
  exact next (n, pAdd q (dvM g r), pSub r (pMul (dvM g r) g), vq2, _) hsh ⟨by show (pAdd q (dvM g r)).length ≤ _; omega, by show (pSub r (pMul (dvM g r) g)).length < n; omega, by show (pSub r (pMul (dvM g r) g)).length ≤ _; omega, hE.trans (hE2.trans (hE3.trans (hE4.trans hE5))), hq3.lv.ext (hE4.trans hE5), ⟨c5, rfl, hO5.low (by omega)⟩, ok, he, s1, rfl, rfl⟩
 ·have f1 : ((g.length : Int) ≤ (r.length : Int)) = False := eq_false (by omega)
  rw [dvLoop_done hlen] at he
  rw [← he]
  simp -dsimp only [go_sem, s1, s6, s7, f1]
  exact ⟨hE, vq, _, rfl, hq, c, rfl, hO⟩
def pDiv (f g : List Rat) : List Rat := (pDivMod f g).1
def pMod (f g : List Rat) : List Rat := (pDivMod f g).2
theorem r6_Div {H : Heap} {v w : Value} {f g : List Rat} (hv : LV H v f) (hw : LV H w g) (hg0 : g ≠ []) (hg : Nrm g) (ok : DvOk f g) (lf : f.length ≤ 200000) (lg : g.length ≤ 200000) :
  Yields 112 [v, w] H (fun v H' => LV H' v (pDiv f g)) := by
 refine y_raw (by decide) Tryz.func112 rfl ?_
 intro lk hlk
 simp -dsimp only [go_sem]
 refine ob_y (r6_DivMod hv hw hg0 hg ok lf lg) hlk ?_
 rintro u H1 hE1 ⟨q, r, rfl, hq, hr⟩
 simp -dsimp only [go_sem]
 exact ⟨hE1, hq⟩
theorem r6_Mod {H : Heap} {v w : Value} {f g : List Rat} (hv : LV H v f) (hw : LV H w g) (hg0 : g ≠ []) (hg : Nrm g) (ok : DvOk f g) (lf : f.length ≤ 200000) (lg : g.length ≤ 200000) :
  Yields 136 [v, w] H (fun v H' => OV H.length H' v (pMod f g)) := by
 refine y_raw (by decide) Tryz.func136 rfl ?_
 intro lk hlk
 simp -dsimp only [go_sem]
 refine ob_y (r6_DivMod hv hw hg0 hg ok lf lg) hlk ?_
 rintro u H1 hE1 ⟨q, r, rfl, hq, hr⟩
 simp -dsimp only [go_sem]
 exact ⟨hE1, hr⟩
theorem dvLoop_rest {g : List Rat} (hg0 : g ≠ []) (hg : Nrm g) : ∀ (n : Nat) (q r : List Rat), r.length < n → Nrm r → (dvLoop g n q r).2.length < g.length ∧ (dvLoop g n q r).2.length ≤ r.length ∧ Nrm (dvLoop g n q r).2
 | 0, _, _, h, _ => by omega
 | n + 1, q, r, h, hr => by
  rw [dvLoop]
  split
  ·rename_i hl
   have hs := dv_short hg0 hg hl
   have := dvLoop_rest hg0 hg n (pAdd q (dvM g r)) (pSub r (pMul (dvM g r) g)) (by omega) (nrm_sub _ _)
   exact ⟨this.1, by omega, this.2.2⟩
  ·exact ⟨by simp only; omega, Nat.le_refl _, hr⟩
theorem pMod_len {f g : List Rat} (hg0 : g ≠ []) (hg : Nrm g) : (pMod f g).length < g.length ∧ (pMod f g).length ≤ f.length ∧ Nrm (pMod f g) := by
 have := dvLoop_rest hg0 hg (f.length + 1) [] (trm f) (by have := trm_le f; omega) (nrm_trm f)
 exact ⟨this.1, Nat.le_trans this.2.1 (trm_le f), this.2.2⟩
theorem dvLoop_quo {g : List Rat} (hg0 : g ≠ []) (hg : Nrm g) : ∀ (n : Nat) (q r : List Rat) (B : Nat), q.length ≤ B → r.length ≤ B → Nrm q → (dvLoop g n q r).1.length ≤ B ∧ Nrm (dvLoop g n q r).1
 | 0, _, _, _, h, _, h3 => ⟨h, h3⟩
 | n + 1, q, r, B, h, h2, h3 => by
  rw [dvLoop]
  split
  ·rename_i hl
   have hs := dv_short hg0 hg hl
   have hgl : 0 < g.length := List.length_pos_iff.2 hg0
   have h4 := pMono_le (qf r (r.length - 1) / qf g (g.length - 1)) (r.length - g.length)
   change (dvM g r).length ≤ _ at h4
   have h5 := pAdd_le q (dvM g r)
   exact dvLoop_quo hg0 hg n _ _ B (by omega) (by omega) (nrm_add _ _)
  ·exact ⟨h, h3⟩
theorem pDiv_len {f g : List Rat} (hg0 : g ≠ []) (hg : Nrm g) : (pDiv f g).length ≤ f.length ∧ Nrm (pDiv f g) :=
 dvLoop_quo hg0 hg (f.length + 1) [] (trm f) f.length (Nat.zero_le _) (trm_le f) nrm_nil
def gcLoop : Nat → List Rat → List Rat → List Rat
 | 0, f, _ => f
 | n + 1, f, g => if g = [] then f else gcLoop n g (pMonic (pMod f g))
def pGcd (f g : List Rat) : List Rat := pMonic (gcLoop (g.length + 1) f g)
def GcOkL : Nat → List Rat → List Rat → Prop
 | 0, _, _ => True
 | n + 1, f, g => if g = [] then SzL f else DvOk f g ∧ SzL (pMod f g) ∧ GcOkL n g (pMonic (pMod f g))
def GcOk (f g : List Rat) : Prop := GcOkL (g.length + 1) f g
structure RadOk (f : List Rat) : Prop where
 zf : SzL f
 g : GcOk f (pDer f)
 d : DvOk f (pGcd f (pDer f))
 z : SzL (pDiv f (pGcd f (pDer f)))
end Gx
end
section
/- Polynomials over the fractions, as lists and as sequences. -/
set_option autoImplicit false
namespace Gx
open A
theorem mulTo_sm (f g : List Rat) (k : Nat) : ∀ i, mulTo f g k i = sm (fun i => if i ≤ k ∧ k - i < g.length then qf f i * qf g (k - i) else 0) i
 | 0 => rfl
 | i + 1 => by
  rw [mulTo, sm, mulTo_sm f g k i]
  split
  ·rfl
  ·exact (Rat.add_zero _).symm
theorem qf_below (f : List Rat) : Below f.length (qf f) := fun _ hi => qf_ge hi
theorem qf_mul (f g : List Rat) (k : Nat) : qf (pMul f g) k = conv (qf f) (qf g) k := by
 rw [qf_pMul, mulTo_sm, conv_len (qf_below f) (qf_below g)]
theorem pMul_comm (f g : List Rat) : pMul f g = pMul g f := nrm_ext (nrm_mul _ _) (nrm_mul _ _) fun k => by rw [qf_mul, qf_mul, conv_comm]
theorem pMul_nil (g : List Rat) : pMul [] g = [] := nrm_ext (nrm_mul _ _) nrm_nil fun k => by
 rw [qf_mul, qf_ge (by simp)]
 exact (conv_congr (fun i _ => qf_ge (by simp)) (fun _ _ => rfl)).trans (conv_nil _ _)
theorem dvLoop_sum (g : List Rat) : ∀ (n : Nat) (q r : List Rat) (k : Nat), conv (qf (dvLoop g n q r).1) (qf g) k + qf (dvLoop g n q r).2 k = conv (qf q) (qf g) k + qf r k
 | 0, _, _, _ => rfl
 | n + 1, q, r, k => by
  rw [dvLoop]
  split
  ·rw [dvLoop_sum g n, conv_congr (fun i _ => qf_add q (dvM g r) i) (fun _ _ => rfl), conv_add, qf_sub, qf_mul]
   grind
  ·rfl
theorem pDivMod_sum (f g : List Rat) (k : Nat) : conv (qf (pDiv f g)) (qf g) k + qf (pMod f g) k = qf f k := by
 unfold pDiv pMod pDivMod
 rw [dvLoop_sum, qf_trm, conv_congr (fun i _ => qf_ge (f := []) (by simp)) (fun _ _ => rfl), conv_nil]
 exact Rat.zero_add _
theorem pDivMod_uniq {f g : List Rat} {m : Nat} {q r : Nat → Rat} (hg0 : g ≠ []) (hg : Nrm g) (hq : Below m q) (hr : Below (g.length - 1) r) (h : ∀ k, conv q (qf g) k + r k = qf f k) : (∀ k, qf (pDiv f g) k = q k) ∧ ∀ k, qf (pMod f g) k = r k := by
 have hl := List.length_pos_iff.2 hg0
 have h1 := (pMod_len (f := f) hg0 hg).1
 have hm1 : Below (max m (pDiv f g).length) (qf (pDiv f g)) := (qf_below _).mono (by omega)
 refine div_uniq (n := g.length - 1) (m := max m (pDiv f g).length) (g := qf g) (fun x hx => ?_) ((qf_below g).mono (by omega)) ((qf_below _).mono (by omega)) hr hm1 (hq.mono (by omega)) fun k => by rw [pDivMod_sum, h]
 rcases Rat.mul_eq_zero.1 hx with h | h
 ·exact h
 ·exact absurd h (hg hg0)
def xStep (F : Nat → Rat) (g : List Rat) (k : Nat) (c : Rat) (I : Nat) : Nat → Rat := fun i => if k ≤ i ∧ i < k + I then F i - c * qf g (i - k) else F i
def xRest (f g : List Rat) : Nat → Nat → Rat
 | 0 => qf f
 | j + 1 => xStep (xRest f g j) g (f.length - g.length - j) (xRest f g j (f.length - g.length - j + g.length - 1) * (qf g (g.length - 1))⁻¹) g.length
def xQ (f g : List Rat) (j : Nat) : Rat := xRest f g j (f.length - g.length - j + g.length - 1) * (qf g (g.length - 1))⁻¹
theorem xRest_succ (f g : List Rat) (j : Nat) : xRest f g (j + 1) = xStep (xRest f g j) g (f.length - g.length - j) (xQ f g j) g.length := rfl
theorem xStep_zero (F : Nat → Rat) (g : List Rat) (k : Nat) (c : Rat) : xStep F g k c 0 = F := by
 funext i; unfold xStep; rw [if_neg (by omega)]
theorem xStep_nought (F : Nat → Rat) (g : List Rat) (k I : Nat) : xStep F g k 0 I = F := by
 funext i; unfold xStep
 split
 ·grind
 ·rfl
theorem xStep_succ (F : Nat → Rat) (g : List Rat) (k : Nat) (c : Rat) (I : Nat) : (fun i => if i = k + I then F (k + I) - c * qf g I else xStep F g k c I i) = xStep F g k c (I + 1) := by
 funext i
 unfold xStep
 by_cases h : i = k + I
 ·rw [if_pos h, if_pos (by omega), h, Nat.add_sub_cancel_left]
 ·rw [if_neg h]
  by_cases h2 : k ≤ i ∧ i < k + I
  ·rw [if_pos h2, if_pos (by omega)]
  ·rw [if_neg h2, if_neg (by omega)]
theorem xStep_at (F : Nat → Rat) (g : List Rat) (k : Nat) (c : Rat) (I : Nat) : xStep F g k c I (k + I) = F (k + I) := by
 unfold xStep; rw [if_neg (by omega)]
def xQs (f g : List Rat) (j : Nat) : Nat → Rat := fun i => if i < f.length - g.length + 1 ∧ f.length - g.length + 1 ≤ i + j then xQ f g (f.length - g.length - i) else 0
theorem xQs_zero (f g : List Rat) : xQs f g 0 = fun _ => 0 := by
 funext i; unfold xQs; rw [if_neg (by omega)]
theorem xQs_succ (f g : List Rat) (j : Nat) (hj : j < f.length - g.length + 1) : xQs f g (j + 1) = fun i => xQs f g j i + if i = f.length - g.length - j then xQ f g j else 0 := by
 funext i
 unfold xQs
 by_cases h : i = f.length - g.length - j
 ·rw [if_pos (by omega), if_neg (by omega), if_pos h, Rat.zero_add]
  congr 1; omega
 ·rw [if_neg h, Rat.add_zero]
  by_cases h2 : i < f.length - g.length + 1 ∧ f.length - g.length + 1 ≤ i + j
  ·rw [if_pos h2, if_pos (by omega)]
  ·rw [if_neg h2, if_neg (by omega)]
theorem xRest_sum {f g : List Rat} (hl : g.length ≤ f.length) : ∀ j, j ≤ f.length - g.length + 1 → ∀ k, conv (xQs f g j) (qf g) k + xRest f g j k = qf f k
 | 0, _, k => by rw [xQs_zero, conv_nil]; exact Rat.zero_add _
 | j + 1, hj, k => by
  have ih := xRest_sum hl j (by omega) k
  rw [xQs_succ f g j (by omega), conv_add, conv_shift, xRest_succ]
  unfold xStep
  by_cases h1 : f.length - g.length - j ≤ k
  ·rw [if_pos h1]
   by_cases h2 : k < f.length - g.length - j + g.length
   ·rw [if_pos ⟨h1, h2⟩]; grind
   ·rw [if_neg (fun h => h2 h.2), qf_ge (f := g) (by omega)]; grind
  ·rw [if_neg h1, if_neg (fun h => h1 h.1)]; grind
theorem xRest_top {f g : List Rat} (hg0 : g ≠ []) (hg : Nrm g) (hl : g.length ≤ f.length) : ∀ j, j ≤ f.length - g.length + 1 → ∀ i, f.length ≤ i + j → xRest f g j i = 0
 | 0, _, i, hi => qf_ge (by omega)
 | j + 1, hj, i, hi => by
  have ih := xRest_top hg0 hg hl j (by omega)
  have hgl := List.length_pos_iff.2 hg0
  rw [xRest_succ]
  unfold xStep
  by_cases h : i = f.length - g.length - j + g.length - 1
  ·rw [if_pos (by omega)]
   have e : i - (f.length - g.length - j) = g.length - 1 := by omega
   rw [e, h]
   unfold xQ
   rw [Rat.mul_assoc, Rat.inv_mul_cancel _ (hg hg0), Rat.mul_one, Rat.sub_self]
  ·rw [if_neg (by omega)]
   exact ih i (by omega)
theorem xDiv_eq {f g : List Rat} (hg0 : g ≠ []) (hg : Nrm g) (hl : g.length ≤ f.length) :
  trm (mapR (fun i => xQ f g (f.length - g.length - i)) (f.length - g.length + 1)) = pDiv f g ∧ trm (mapR (xRest f g (f.length - g.length + 1)) (g.length - 1)) = pMod f g := by
 have hs := xRest_sum (f := f) (g := g) hl _ (Nat.le_refl _)
 have ht := xRest_top hg0 hg hl _ (Nat.le_refl _)
 have hgl := List.length_pos_iff.2 hg0
 have hu := pDivMod_uniq (f := f) (m := f.length - g.length + 1) (q := xQs f g (f.length - g.length + 1)) (r := xRest f g (f.length - g.length + 1)) hg0 hg (fun i hi => by unfold xQs; rw [if_neg (by omega)]) (fun i hi => ht i (by omega)) hs
 constructor
 ·refine nrm_ext (nrm_trm _) (pDiv_len hg0 hg).2 fun i => ?_
  rw [hu.1, qf_trm, qf_mapR]
  unfold xQs
  by_cases h : i < f.length - g.length + 1
  ·rw [if_pos h, if_pos (by omega)]
  ·rw [if_neg h, if_neg (by omega)]
 ·refine nrm_ext (nrm_trm _) (pMod_len hg0 hg).2.2 fun i => ?_
  rw [hu.2, qf_trm, qf_mapR]
  split
  ·rfl
  ·exact (ht i (by omega)).symm
theorem pMod_small {f g : List Rat} (nf : Nrm f) (h : f.length < g.length) : pDivMod f g = ([], f) := by
 unfold pDivMod
 rw [trm_id nf, dvLoop_done (by omega)]
end Gx
end
section
/- Matrices in memory: slices of slices of fractions. -/
set_option autoImplicit false
namespace Gx
open Go Go.Proofs
set_option maxRecDepth 10000
structure Sx where
 a : Option Addr
 n : Nat
instance : Enc Sx := ⟨fun x => [.slice x.a x.n x.n], 1, fun _ => rfl⟩
def RowsAt (H : Heap) (xs : List Sx) (M : List (List Rat)) : Prop :=
 xs.length = M.length ∧ ∀ i (h1 : i < xs.length) (h2 : i < M.length), xs[i].n = M[i].length ∧ SL H xs[i].a M[i]
theorem RowsAt.ext {H H' : Heap} {xs : List Sx} {M : List (List Rat)} (h : RowsAt H xs M) (hE : Ext H H') : RowsAt H' xs M :=
 ⟨h.1, fun i h1 h2 => ⟨(h.2 i h1 h2).1, hE.sl (h.2 i h1 h2).2⟩⟩
def MV (H : Heap) (v : Value) (M : List (List Rat)) : Prop := ∃ a xs, v = .slice a M.length M.length ∧ SL H a xs ∧ RowsAt H xs M
theorem MV.ext {H H' : Heap} {v : Value} {M : List (List Rat)} (h : MV H v M) (hE : Ext H H') : MV H' v M := let ⟨a, xs, h1, h2, h3⟩ := h; ⟨a, xs, h1, hE.sl h2, h3.ext hE⟩
theorem MV.nil {H : Heap} : MV H (.slice none 0 0) [] := ⟨none, [], rfl, SL.nil, rfl, fun i h => by simp at h⟩
structure RowT (t te : TypeId) : Prop where
 e : telem Tryz.prog t = some te
 s : tsz Tryz.prog te = some 1
 b : tbytes Tryz.prog te = some 24
 z : tzero Tryz.prog te = some [.slice none 0 0]
 g : tagg Tryz.prog te = some false
 r : telem Tryz.prog te = some 55
theorem rowT_M : RowT 28 22 := ⟨by simp only [go_sem], by simp only [go_sem], by simp only [go_sem], by simp only [go_sem], by simp only [go_sem], by simp only [go_sem]⟩
section
variable {t te : TypeId}
theorem RowsAt.ix {H : Heap} {a : Option Addr} {xs : List Sx} {M : List (List Rat)} (T : RowT t te) (hs : SL H a xs) (hr : RowsAt H xs M) (i : Nat) (hi : i < M.length) :
  ∃ p c, iindexAddr Tryz.prog t (.slice a M.length M.length) (.int .i64 (i : Int)) = some p ∧ (∀ H', Ext H H' → iload Tryz.prog H' te p = some (.slice c M[i].length M[i].length)) ∧ SL H c M[i] := by
 obtain ⟨hl, hr⟩ := hr
 have hi2 : i < xs.length := by omega
 obtain ⟨r1, r2⟩ := hr i hi2 hi
 obtain ⟨b, o, B, rfl, hB, hz, hg⟩ := hs.get1 rfl i hi2 (.slice xs[i].a xs[i].n xs[i].n) rfl
 refine ⟨.pointer (some ⟨b, o + i * 1, none⟩), xs[i].a, ?_, fun H' hE => ?_, r2⟩
 ·have h1 : (i : Int) < (M.length : Int) := by omega
  simp -dsimp only [go_sem, T.e, T.s, hi]
 ·have hB' := hE.live hB
  have hs1 := T.s
  have hg1 := T.g
  rw [r1] at hg
  simp -dsimp only [go_sem, hB', hs1, hg1, hg]
theorem MV.ix {H : Heap} {v : Value} {M : List (List Rat)} (T : RowT t te) (h : MV H v M) (i : Nat) (hi : i < M.length) :
  ∃ p c, iindexAddr Tryz.prog t v (.int .i64 (i : Int)) = some p ∧ (∀ H', Ext H H' → iload Tryz.prog H' te p = some (.slice c M[i].length M[i].length)) ∧ SL H c M[i] := by
 obtain ⟨a, xs, rfl, hs, hr⟩ := h
 exact RowsAt.ix T hs hr i hi
theorem ap_sx {lk : Nat} {H0 H : Heap} {a : Option Addr} {xs : List Sx} {n : Nat} (T : RowT t te) {t2 : TypeId} (he2 : telem Tryz.prog t2 = some te) (hO : Own H0.length H a xs) (hlk : lk ≤ H0.length) (hn : n = xs.length) (hle : n ≤ 1000000) (x : Sx) :
  iappend Tryz.prog lk (H ++ [⟨[.slice x.a x.n x.n], 1, false⟩]) t t2 (.slice a n n) (.slice (some ⟨H.length, 0, none⟩) 1 1) = some (.slice (some ⟨H.length + 1, 0, none⟩) (n + 1) (n + 1), kill (H ++ [⟨[.slice x.a x.n x.n], 1, false⟩]) a ++ [⟨cells xs ++ [.slice x.a x.n x.n], 1, false⟩]) := by
 have := ap_ownN (P := Tryz.prog) (lk := lk) (t := t) (t2 := t2) hO hlk hn [⟨[.slice x.a x.n x.n], 1, false⟩] 0 [.slice x.a x.n x.n] 1 rfl rfl rfl
 refine this.trans ?_
 have h1 := T.s
 have h2 := T.b
 have h3 := T.z
 rw [T.e, he2]
 simp only [h1, h2, h3, List.length_cons, List.length_nil, Nat.zero_add]
 rw [if_pos (by refine ⟨trivial, by omega, trivial, by omega, by omega⟩)]
end
theorem own_sx {H0 H : Heap} {a : Option Addr} {xs : List Sx} (hE : Ext H0 H) (x : Sx) (N : List Blk) : Own H0.length (kill (H ++ N) a ++ [⟨cells xs ++ [.slice x.a x.n x.n], 1, false⟩]) (some ⟨H.length + N.length, 0, none⟩) (xs ++ [x]) :=
 own_ap (lo := H0.length) (H := H) (a := a) (l := xs) x N (by have := hE.le; omega)
theorem sl_kill {lo : Nat} {H : Heap} {a c : Option Addr} {xs : List Sx} {r : List Rat} (hO : Own lo H a xs) (hr : SL H c r) : SL (kill H a) c r := by
 rcases hr with hr | ⟨b, o, B, rfl, h2, h3, h4⟩
 ·exact .inl hr
 ·refine .inr ⟨b, o, B, rfl, kill_other h2 ?_, h3, h4⟩
  rintro c o' e rfl
  rcases hO with ⟨h, _⟩ | ⟨b', h, _, h5⟩
  ·cases h
  ·cases h
   rintro rfl
   rw [h2] at h5
   injection h5 with h5
   rw [h5] at h3
   have h6 : (1 : Nat) = 3 := h3
   omega
structure MGrow (lo : Nat) (H : Heap) (v : Value) (M : List (List Rat)) (a : Option Addr) (xs : List Sx) : Prop where
 v : v = .slice a M.length M.length
 own : Own lo H a xs
 rows : RowsAt H xs M
theorem MGrow.nil {lo : Nat} {H : Heap} : MGrow lo H (.slice none 0 0) [] none [] := ⟨rfl, Own.nil, rfl, fun i h => by simp at h⟩
theorem MGrow.mv {lo : Nat} {H : Heap} {v : Value} {M : List (List Rat)} {a : Option Addr} {xs : List Sx} (h : MGrow lo H v M a xs) : MV H v M := ⟨a, xs, h.v, h.own.sl, h.rows⟩
theorem MGrow.ext {lo : Nat} {H H' : Heap} {v : Value} {M : List (List Rat)} {a : Option Addr} {xs : List Sx} (h : MGrow lo H v M a xs) (hE : Ext H H') : MGrow lo H' v M a xs := ⟨h.v, hE.own h.own, h.rows.ext hE⟩
theorem MGrow.app {H0 H : Heap} {v : Value} {M : List (List Rat)} {a : Option Addr} {xs : List Sx} (h : MGrow H0.length H v M a xs) (hE : Ext H0 H) {c : Option Addr} {r : List Rat} (hr : SL H c r) :
  MGrow H0.length (kill (H ++ [⟨[.slice c r.length r.length], 1, false⟩]) a ++ [⟨cells xs ++ [.slice c r.length r.length], 1, false⟩]) (.slice (some ⟨H.length + 1, 0, none⟩) (M.length + 1) (M.length + 1)) (M ++ [r]) (some ⟨H.length + 1, 0, none⟩) (xs ++ [⟨c, r.length⟩]) ∧
  Ext H0 (kill (H ++ [⟨[.slice c r.length r.length], 1, false⟩]) a ++ [⟨cells xs ++ [.slice c r.length r.length], 1, false⟩]) := by
 have hown := own_sx (a := a) (xs := xs) hE ⟨c, r.length⟩ [⟨[.slice c r.length r.length], 1, false⟩]
 have hm := h.own.more [⟨[.slice c r.length r.length], 1, false⟩]
 refine ⟨⟨by rw [List.length_append]; rfl, hown, by rw [List.length_append, List.length_append, h.rows.1]; rfl, fun i h1 h2 => ?_⟩, (hm.kill (hE.more _)).more _⟩
 by_cases hi : i < xs.length
 ·have hi2 : i < M.length := by rw [← h.rows.1]; exact hi
  rw [List.getElem_append_left hi, List.getElem_append_left hi2]
  obtain ⟨r1, r2⟩ := h.rows.2 i hi hi2
  exact ⟨r1, (Ext.app _ _).sl (sl_kill hm ((Ext.app _ _).sl r2))⟩
 ·have e1 : i = xs.length := by rw [List.length_append] at h1; simp at h1; omega
  have e2 : i = M.length := by rw [e1]; exact h.rows.1
  subst e1
  rw [List.getElem_append_right (Nat.le_refl _), List.getElem_append_right (by omega)]
  simp only [Nat.sub_self, List.getElem_cons_zero, e2]
  exact ⟨trivial, (Ext.app _ _).sl (sl_kill hm ((Ext.app _ _).sl hr))⟩
structure MOwn (lo : Nat) (H : Heap) (a : Option Addr) (xs : List Sx) (M : List (List Rat)) : Prop where
 out : Own lo H a xs
 len : xs.length = M.length
 row : ∀ i (h1 : i < xs.length) (h2 : i < M.length), xs[i].n = M[i].length ∧ Own lo H xs[i].a M[i]
 ne : ∀ i j (hi : i < xs.length) (hj : j < xs.length), i ≠ j → xs[i].a = xs[j].a → xs[i].a = none
def OM (lo : Nat) (H : Heap) (v : Value) (M : List (List Rat)) : Prop := ∃ a xs, v = .slice a M.length M.length ∧ MOwn lo H a xs M
section
variable {lo : Nat} {H : Heap} {a : Option Addr} {xs : List Sx} {M : List (List Rat)}
theorem MOwn.rows (h : MOwn lo H a xs M) : RowsAt H xs M := ⟨h.len, fun i h1 h2 => ⟨(h.row i h1 h2).1, (h.row i h1 h2).2.sl⟩⟩
theorem OM.mv {v : Value} (h : OM lo H v M) : MV H v M := let ⟨a, xs, h1, h2⟩ := h; ⟨a, xs, h1, h2.out.sl, h2.rows⟩
theorem MOwn.ext {H' : Heap} (h : MOwn lo H a xs M) (hE : Ext H H') : MOwn lo H' a xs M :=
 ⟨hE.own h.out, h.len, fun i h1 h2 => ⟨(h.row i h1 h2).1, hE.own (h.row i h1 h2).2⟩, h.ne⟩
theorem MOwn.low {lo' : Nat} (h : MOwn lo H a xs M) (hl : lo' ≤ lo) : MOwn lo' H a xs M :=
 ⟨h.out.low hl, h.len, fun i h1 h2 => ⟨(h.row i h1 h2).1, (h.row i h1 h2).2.low hl⟩, h.ne⟩
theorem OM.ext {H' : Heap} {v : Value} (h : OM lo H v M) (hE : Ext H H') : OM lo H' v M := let ⟨a, xs, h1, h2⟩ := h; ⟨a, xs, h1, h2.ext hE⟩
theorem OM.low {lo' : Nat} {v : Value} (h : OM lo H v M) (hl : lo' ≤ lo) : OM lo' H v M := let ⟨a, xs, h1, h2⟩ := h; ⟨a, xs, h1, h2.low hl⟩
theorem MOwn.nil : MOwn lo H none [] [] := ⟨Own.nil, rfl, fun i h => by simp at h, fun i j h => by simp at h⟩
theorem own_kill {b : Option Addr} {r : List Rat} (hO : Own lo H a xs) (h : Own lo H b r) : Own lo (kill H a) b r := by
 rcases h with h | ⟨c, rfl, h2, h3⟩
 ·exact .inl h
 ·refine .inr ⟨c, rfl, h2, kill_other h3 ?_⟩
  rintro c' o e rfl
  rcases hO with ⟨h, _⟩ | ⟨b', h, _, h5⟩
  ·cases h
  ·cases h
   rintro rfl
   rw [h3] at h5
   injection h5 with h5
   have h6 : (lblk r).sz = (lblk xs).sz := by rw [h5]
   have h7 : (3 : Nat) = 1 := h6
   omega
theorem MOwn.app {H0 H2 : Heap} (h : MOwn H0.length H a xs M) (hE0 : Ext H0 H) (hE : Ext H H2) {c : Option Addr} {r : List Rat} (hr : Own H.length H2 c r) :
  MOwn H0.length (kill (H2 ++ [⟨[.slice c r.length r.length], 1, false⟩]) a ++ [⟨cells xs ++ [.slice c r.length r.length], 1, false⟩]) (some ⟨H2.length + 1, 0, none⟩) (xs ++ [⟨c, r.length⟩]) (M ++ [r]) ∧
  Ext H0 (kill (H2 ++ [⟨[.slice c r.length r.length], 1, false⟩]) a ++ [⟨cells xs ++ [.slice c r.length r.length], 1, false⟩]) := by
 have hE2 := hE0.trans hE
 have h2 := h.ext hE
 have hown := own_sx (a := a) (xs := xs) hE2 ⟨c, r.length⟩ [⟨[.slice c r.length r.length], 1, false⟩]
 have hm := h2.out.more [⟨[.slice c r.length r.length], 1, false⟩]
 have hN : ∀ {b : Option Addr} {q : List Rat}, Own H0.length H2 b q → Own H0.length (kill (H2 ++ [⟨[.slice c r.length r.length], 1, false⟩]) a ++ [⟨cells xs ++ [.slice c r.length r.length], 1, false⟩]) b q := fun hq => (own_kill hm (hq.more _)).more _
 have hold : ∀ i (h1 : i < xs.length) b o e, xs[i].a = some ⟨b, o, e⟩ → b < H.length := fun i h1 b o e he => by
  rcases (h.row i h1 (by rw [← h.len]; exact h1)).2 with ⟨h3, _⟩ | ⟨b', h3, _, h4⟩
  ·rw [h3] at he; cases he
  ·rw [h3] at he; cases he; exact ilive_lt h4
 have hnew : ∀ b o e, c = some ⟨b, o, e⟩ → H.length ≤ b := fun b o e he => by
  rcases hr with ⟨h3, _⟩ | ⟨b', h3, h4, _⟩
  ·rw [h3] at he; cases he
  ·rw [h3] at he; cases he; exact h4
 have hlen := h.len
 refine ⟨⟨hown, by rw [List.length_append, List.length_append, h.len]; rfl, fun i h1 h3 => ?_, fun i j hi hj hij he => ?_⟩, (hm.kill (hE2.more _)).more _⟩
 ·by_cases hi : i < xs.length
  ·have hi2 : i < M.length := by omega
   rw [List.getElem_append_left hi, List.getElem_append_left hi2]
   obtain ⟨r1, r2⟩ := h2.row i hi hi2
   exact ⟨r1, hN r2⟩
  ·have e1 : i = xs.length := by rw [List.length_append] at h1; simp at h1; omega
   have e2 : i = M.length := by omega
   subst e1
   rw [List.getElem_append_right (Nat.le_refl _), List.getElem_append_right (by omega)]
   simp only [Nat.sub_self, List.getElem_cons_zero, e2]
   exact ⟨trivial, hN (hr.low hE0.le)⟩
 ·rw [List.length_append] at hi hj
  simp only [List.length_cons, List.length_nil] at hi hj
  by_cases hi2 : i < xs.length
  ·rw [List.getElem_append_left hi2] at he ⊢
   by_cases hj2 : j < xs.length
   ·rw [List.getElem_append_left hj2] at he
    exact h.ne i j hi2 hj2 hij he
   ·rw [List.getElem_append_right (by omega)] at he
    have : j - xs.length = 0 := by omega
    simp only [this, List.getElem_cons_zero] at he
    cases hx : xs[i].a with
    | none => rfl
    | some A =>
     obtain ⟨b, o, e⟩ := A
     have h3 := hold i hi2 b o e hx
     have h4 := hnew b o e (by rw [← he]; exact hx)
     omega
  ·by_cases hj2 : j < xs.length
   ·rw [List.getElem_append_right (by omega), List.getElem_append_left hj2] at he
    rw [List.getElem_append_right (by omega)]
    have : i - xs.length = 0 := by omega
    simp only [this, List.getElem_cons_zero] at he ⊢
    cases hx : c with
    | none => rfl
    | some A =>
     obtain ⟨b, o, e⟩ := A
     have h3 := hold j hj2 b o e (by rw [← he]; exact hx)
     have h4 := hnew b o e hx
     omega
   ·omega
theorem own_ne {b c : Option Addr} {r q : List Rat} {lb : Nat} (h : Own lo H b r) (hb : b = some ⟨lb, 0, none⟩) (hc : Own lo H c q) (hne : c = b → c = none) (B : Blk) : Own lo (H.set lb B) c q := by
 refine hc.set ?_
 rintro d o e rfl hd
 rcases hc with ⟨h1, _⟩ | ⟨b', h1, _, _⟩
 ·cases h1
 ·cases h1
  subst hd
  have := hne hb.symm
  cases this
theorem MOwn.put {lk : Nat} {t te : TypeId} (T : RowT t te) (h : MOwn lo H a xs M) (i j : Nat) (hi : i < M.length) (hj : j < M[i].length) (hlk : lk ≤ lo) (q : Rat) :
  ∃ p c p2 H2, iindexAddr Tryz.prog t (.slice a M.length M.length) (.int .i64 (i : Int)) = some p ∧ iload Tryz.prog H te p = some (.slice c M[i].length M[i].length) ∧
   iindexAddr Tryz.prog te (.slice c M[i].length M[i].length) (.int .i64 (j : Int)) = some p2 ∧ iload Tryz.prog H 55 p2 = some (vR M[i][j]) ∧ istore Tryz.prog lk H 55 p2 (vR q) = some H2 ∧
   MOwn lo H2 a xs (M.set i (M[i].set j q)) ∧ (∀ H0 : Heap, H0.length ≤ lo → Ext H0 H → Ext H0 H2) := by
 have hi2 : i < xs.length := by rw [h.len]; exact hi
 obtain ⟨p, c, h1, h2, _⟩ := RowsAt.ix T h.out.sl h.rows i hi
 have h2 := h2 H (Ext.refl H)
 have hrow := (h.row i hi2 hi)
 have hc : xs[i].a = c := by
  obtain ⟨b, o, B, rfl, hB, hz, hg⟩ := h.out.sl.get1 rfl i hi2 (.slice xs[i].a xs[i].n xs[i].n) rfl
  have hs1 := T.s
  have hg1 := T.g
  have he1 := T.e
  simp -dsimp only [go_sem, he1, hs1, hi] at h1
  injection h1 with h1
  subst h1
  simp -dsimp only [go_sem, hB, hs1, hg1, hg] at h2
  injection h2 with h2
  injection h2 with h2
 obtain ⟨r1, r2⟩ := hrow
 rw [hc] at r2
 obtain ⟨p2, h3, h4⟩ := r2.sl.ix j hj T.r
 have h4 := h4 H (Ext.refl H)
 rcases r2 with ⟨_, h0⟩ | ⟨b, rfl, hb1, hb2⟩
 ·rw [h0] at hj; simp at hj
 ·refine ⟨p, _, p2, H.set b (lblk (M[i].set j q)), h1, h2, h3, h4, ?_, ?_, ?_⟩
  ·have hjl : (j : Int) < (M[i].length : Int) := by omega
   have he := T.r
   simp -dsimp only [go_sem, he, hj] at h3
   injection h3 with h3
   subst h3
   have hput := cells_put M[i] j q hj
   have hput : iput (cells M[i]) (j * 3) (rC q) = cells (M[i].set j q) := hput
   have hcl : (cells M[i]).length = M[i].length * 3 := cells_len _
   have hle : lk ≤ b := by omega
   simp -dsimp only [go_sem, hb2, lblk_c, hput, hle, hcl]
   have : j * 3 + 2 < M[i].length * 3 := by omega
   rw [if_pos this]
   rfl
  ·refine ⟨?_, by rw [List.length_set]; exact h.len, fun k h5 h6 => ?_, h.ne⟩
   ·rcases h.out with ho | ⟨b', ho1, ho2, ho3⟩
    ·exact .inl ho
    ·refine .inr ⟨b', ho1, ho2, ?_⟩
     have : b ≠ b' := by
      rintro rfl
      rw [hb2] at ho3
      injection ho3 with ho3
      have h6 : (lblk M[i]).sz = (lblk xs).sz := by rw [ho3]
      have h7 : (3 : Nat) = 1 := h6
      omega
     rw [ilive_set_ne this]; exact ho3
   ·rw [List.length_set] at h6
    by_cases hk : i = k
    ·subst hk
     rw [List.getElem_set_self, List.length_set]
     refine ⟨r1, ?_⟩
     rw [hc]
     exact .inr ⟨b, rfl, hb1, ilive_set_self (ilive_lt hb2) rfl⟩
    ·rw [List.getElem_set_ne hk]
     obtain ⟨r3, r4⟩ := h.row k h5 h6
     refine ⟨r3, own_ne (.inr ⟨b, rfl, hb1, hb2⟩) rfl r4 (fun he => ?_) _⟩
     exact h.ne k i h5 hi2 (fun h => hk h.symm) (by rw [he, hc])
  ·intro H0 hl hE
   exact hE.set (by omega) _
end
def mx (r c : Nat) (E : Nat → Nat → Rat) : List (List Rat) := (List.range r).map fun i => mapR (E i) c
theorem mx_len (r c : Nat) (E : Nat → Nat → Rat) : (mx r c E).length = r := by simp [mx]
theorem mx_row (r c : Nat) (E : Nat → Nat → Rat) (i : Nat) (h : i < (mx r c E).length) : (mx r c E)[i] = mapR (E i) c := by simp [mx]
theorem mx_rowlen (r c : Nat) (E : Nat → Nat → Rat) (i : Nat) (h : i < (mx r c E).length) : (mx r c E)[i].length = c := by rw [mx_row, mapR_len]
theorem mapR_get (F : Nat → Rat) (n i : Nat) (h : i < (mapR F n).length) : (mapR F n)[i] = F i := by simp [mapR]
theorem mx_get (r c : Nat) (E : Nat → Nat → Rat) (i j : Nat) (h : i < (mx r c E).length) (h2 : j < (mx r c E)[i].length) : (mx r c E)[i][j] = E i j := by
 simp only [mx_row] at h2 ⊢; exact mapR_get _ _ _ _
theorem mx_succ (r c : Nat) (E : Nat → Nat → Rat) : mx (r + 1) c E = mx r c E ++ [mapR (E r) c] := by simp [mx, List.range_succ]
theorem mapR_congr {F G : Nat → Rat} {n : Nat} (h : ∀ i, i < n → F i = G i) : mapR F n = mapR G n := by
 unfold mapR; exact List.map_congr_left fun i hi => h i (List.mem_range.1 hi)
theorem mx_congr {E F : Nat → Nat → Rat} {r c : Nat} (h : ∀ i j, i < r → j < c → E i j = F i j) : mx r c E = mx r c F := by
 unfold mx; exact List.map_congr_left fun i hi => mapR_congr fun j hj => h i j (List.mem_range.1 hi) hj
theorem mx_put (r c : Nat) (E : Nat → Nat → Rat) (i j : Nat) (q : Rat) (hi : i < (mx r c E).length) : (mx r c E).set i ((mx r c E)[i].set j q) = mx r c (fun i' j' => if i' = i ∧ j' = j then q else E i' j') := by
 refine List.ext_getElem (by simp [mx]) fun k h1 h2 => ?_
 simp only [mx_row, List.getElem_set]
 by_cases hk : i = k
 ·subst hk
  rw [if_pos rfl]
  refine List.ext_getElem (by simp [mapR]) fun l h3 h4 => ?_
  rw [mapR_get, List.getElem_set]
  by_cases hl : j = l
  ·subst hl; simp
  ·rw [if_neg hl, mapR_get, if_neg (fun h => hl h.2.symm)]
 ·rw [if_neg hk]
  exact mapR_congr fun l _ => by rw [if_neg (fun h => hk h.1.symm)]
theorem inc64 {i n : Nat} (h : i < n) (hn : n ≤ 1000000) : IntKind.i64.wrap ((i : Int) + 1) = ((i + 1 : Nat) : Int) := by rw [w64 (by omega) (by omega)]; omega
theorem ltI {i n : Nat} (h : i < n) : ((i : Int) < (n : Int)) = True := eq_true (by omega)
theorem nltI (n : Nat) : ((n : Int) < (n : Int)) = False := eq_false (by omega)
theorem r5_Zero {H : Heap} (r c : Nat) (hr : r ≤ 1000000) (hc : c ≤ 1000000) : Yields 169 [.int .i64 (r : Int), .int .i64 (c : Int)] H (fun v H' => OM H.length H' v (mx r c fun _ _ => 0)) := by
 refine y_raw (by decide) Tryz.func169 rfl ?_
 intro lk hlk
 simp -dsimp only [go_sem]
 refine r_loop (m := fun (s : Nat × Option Addr × List Sx) => r - s.1) (I := fun s σ H' => s.1 ≤ r ∧ Ext H H' ∧ MOwn H.length H' s.2.1 s.2.2 (mx s.1 c fun _ _ => 0) ∧ σ 0 = .int .i64 (r : Int) ∧ σ 1 = .int .i64 (c : Int) ∧ σ 5 = .slice s.2.1 s.1 s.1 ∧ σ 6 = .int .i64 (s.1 : Int)) (0, none, []) ⟨Nat.zero_le _, Ext.refl _, MOwn.nil, rfl, rfl, rfl, rfl⟩ ?_
 rintro ⟨i, a, xs⟩ σ H' ⟨h1, hE, hM, s0, s1, s5, s6⟩
 simp only at h1 hM s5 s6
 by_cases hi : i < r
 ·have f1 := ltI hi
  simp -dsimp only [go_sem, s0, s1, s5, s6, f1]
  refine r_loop (m := fun (s : Nat × Option Addr) => c - s.1) (I := fun s σ H2 => s.1 ≤ c ∧ Ext H' H2 ∧ Own H'.length H2 s.2 (mapR (fun _ => 0) s.1) ∧ σ 0 = .int .i64 (r : Int) ∧ σ 1 = .int .i64 (c : Int) ∧ σ 5 = .slice a i i ∧ σ 6 = .int .i64 (i : Int) ∧ σ 7 = .slice s.2 s.1 s.1 ∧ σ 8 = .int .i64 (s.1 : Int)) (0, none) ⟨Nat.zero_le _, Ext.refl _, Own.nil, s0, s1, s5, s6, rfl, rfl⟩ ?_
  clear s0 s1 s5 s6
  rintro ⟨j, d⟩ σ H2 ⟨h2, hE2, hO, s0, s1, s5, s6, s7, s8⟩
  simp only at h2 hO s7 s8
  have hlen := mapR_len (fun _ => (0 : Rat)) j
  have hlo := hE.le
  by_cases hj : j < c
  ·have f2 := ltI hj
   have e7 := inc64 hj hc
   have hap := ap_rat (lk := lk) (t := 22) (t2 := 22) te_Rats te_Rats hO (by omega) hlen.symm (by omega) 0
   have hO2 := own_rat hE2 hO 0 [⟨rC 0, 3, false⟩]
   rw [← mapR_succ (fun _ => 0)] at hO2
   simp -dsimp only [go_sem, s0, s1, s5, s6, s7, s8, f2, r3_zero, reps, hap, e7]
   exact next (j + 1, _) (by show c - (j + 1) < c - j; omega) ⟨hj, ext_rat hE2 hO _ _, hO2, s0, s1, s5, s6, rfl, rfl⟩
  ·have hj' : j = c := by omega
   subst hj'
   have f2 := nltI j
   have e9 := inc64 hi hr
   have hxl := hM.len
   rw [mx_len] at hxl
   obtain ⟨hM2, hE3⟩ := hM.app hE hE2 hO
   rw [← mx_succ i j (fun _ _ => 0), hlen] at hM2
   rw [hlen] at hE3
   have hap := ap_sx (lk := lk) (t := 28) (t2 := 28) rowT_M rowT_M.e ((hM.ext hE2).out) (by omega) hxl.symm (by omega) ⟨d, j⟩
   simp -dsimp only [go_sem, s0, s1, s5, s6, s7, s8, f2, reps, hap, e9]
   exact next (i + 1, _, _) (by show r - (i + 1) < r - i; omega) ⟨hi, hE3, hM2, s0, s1, rfl, rfl⟩
 ·have hi' : i = r := by omega
  subst hi'
  have f1 := nltI i
  simp -dsimp only [go_sem, s0, s1, s5, s6, f1]
  exact ⟨hE, a, xs, by rw [mx_len], hM⟩
def cols (M : List (List Rat)) : Nat := match M with
 | [] => 0
 | r :: _ => r.length
theorem cols_mx (r c : Nat) (E : Nat → Nat → Rat) (h : 0 < r) : cols (mx r c E) = c := by
 obtain ⟨n, rfl⟩ : ∃ n, r = n + 1 := ⟨r - 1, by omega⟩
 have : mx (n + 1) c E = mapR (E 0) c :: (List.range n).map (fun i => mapR (E (i + 1)) c) := by
  unfold mx; rw [List.range_succ_eq_map]; simp
 rw [this]; exact mapR_len _ _
theorem r5_Cols {H : Heap} {v : Value} {M : List (List Rat)} (hv : MV H v M) (lk : Nat) : gcall Tryz.prog md lk 126 [v] H = some (.int .i64 (cols M : Int), H) := by
 refine gcall_val rfl Tryz.func126 rfl rfl ?_
 cases M with
 | nil =>
  obtain ⟨a, xs, rfl, hs, hr⟩ := hv
  have f1 : ((0 : Nat) : Int) = 0 := rfl
  simp -dsimp only [go_sem, f1]
  rfl
 | cons r M =>
  obtain ⟨p, c, q1, q2, q3⟩ := hv.ix rowT_M 0 (by simp)
  have q2 := q2 H (Ext.refl _)
  obtain ⟨a, xs, rfl, hs, hr⟩ := hv
  rw [Int.natCast_zero] at q1
  simp only [List.length_cons, List.getElem_cons_zero] at q1 q2 q3
  have f1 : (((M.length + 1 : Nat) : Int) = 0) = False := eq_false (by omega)
  simp -dsimp only [go_sem, f1, q1, q2]
  rfl
def fillE (G : Nat → Nat → Rat) (i j : Nat) : Nat → Nat → Rat := fun k l => if k < i ∨ (k = i ∧ l < j) then G k l else 0
theorem fillE_zero (G : Nat → Nat → Rat) : fillE G 0 0 = fun _ _ => 0 := by
 funext k l; unfold fillE; rw [if_neg (by omega)]
theorem fillE_step (G : Nat → Nat → Rat) (i j : Nat) : (fun k l => if k = i ∧ l = j then G i j else fillE G i j k l) = fillE G i (j + 1) := by
 funext k l
 unfold fillE
 by_cases h : k = i ∧ l = j
 ·rw [if_pos h, if_pos (by omega), h.1, h.2]
 ·rw [if_neg h]
  by_cases h2 : k < i ∨ (k = i ∧ l < j)
  ·rw [if_pos h2, if_pos (by omega)]
  ·rw [if_neg h2, if_neg (by omega)]
theorem MV.ent {H : Heap} {v : Value} {t te : TypeId} {r c : Nat} {E : Nat → Nat → Rat} (T : RowT t te) (h : MV H v (mx r c E)) (i j : Nat) (hi : i < r) (hj : j < c) :
  ∃ p d p2, iindexAddr Tryz.prog t v (.int .i64 (i : Int)) = some p ∧ (∀ H', Ext H H' → iload Tryz.prog H' te p = some (.slice d c c)) ∧
   iindexAddr Tryz.prog te (.slice d c c) (.int .i64 (j : Int)) = some p2 ∧ (∀ H', Ext H H' → iload Tryz.prog H' 55 p2 = some (vR (E i j))) := by
 obtain ⟨p, d, h1, h2, h3⟩ := h.ix T i (by rw [mx_len]; exact hi)
 obtain ⟨p2, h4, h5⟩ := h3.ix j (by rw [mx_rowlen]; exact hj) T.r
 simp only [mx_rowlen] at h2 h4
 simp only [mx_get] at h5
 exact ⟨p, d, p2, h1, h2, h4, h5⟩
theorem MV.row {H : Heap} {v : Value} {t te : TypeId} {r c : Nat} {E : Nat → Nat → Rat} (T : RowT t te) (h : MV H v (mx r c E)) (i : Nat) (hi : i < r) :
  ∃ p d, iindexAddr Tryz.prog t v (.int .i64 (i : Int)) = some p ∧ (∀ H', Ext H H' → iload Tryz.prog H' te p = some (.slice d c c)) ∧ SL H d (mapR (E i) c) := by
 obtain ⟨p, d, h1, h2, h3⟩ := h.ix T i (by rw [mx_len]; exact hi)
 simp only [mx_rowlen] at h2
 rw [mx_row] at h3
 exact ⟨p, d, h1, h2, h3⟩
theorem MV.is {H : Heap} {v : Value} {M : List (List Rat)} (h : MV H v M) : ∃ a, v = .slice a M.length M.length := let ⟨a, _, h, _⟩ := h; ⟨a, h⟩
theorem MOwn.putx {lo : Nat} {H : Heap} {a : Option Addr} {xs : List Sx} {lk : Nat} {t te : TypeId} {r c : Nat} {E : Nat → Nat → Rat} (T : RowT t te) (h : MOwn lo H a xs (mx r c E)) (i j : Nat) (hi : i < r) (hj : j < c) (hlk : lk ≤ lo) (q : Rat) :
  ∃ p d p2 H2, iindexAddr Tryz.prog t (.slice a r r) (.int .i64 (i : Int)) = some p ∧ iload Tryz.prog H te p = some (.slice d c c) ∧
   iindexAddr Tryz.prog te (.slice d c c) (.int .i64 (j : Int)) = some p2 ∧ istore Tryz.prog lk H 55 p2 (vR q) = some H2 ∧
   MOwn lo H2 a xs (mx r c fun k l => if k = i ∧ l = j then q else E k l) ∧ (∀ H0 : Heap, H0.length ≤ lo → Ext H0 H → Ext H0 H2) := by
 obtain ⟨p, d, p2, H2, q1, q2, q3, _, q5, q6, q7⟩ := h.put (lk := lk) T i j (by rw [mx_len]; exact hi) (by rw [mx_rowlen]; exact hj) hlk q
 rw [mx_len] at q1
 rw [mx_rowlen] at q2 q3
 rw [mx_put] at q6
 exact ⟨p, d, p2, H2, q1, q2, q3, q5, q6, q7⟩
theorem r5_Transpose {H : Heap} {v : Value} {r c : Nat} {E : Nat → Nat → Rat} (hv : MV H v (mx r c E)) (h0 : 0 < r) (hr : r ≤ 1000000) (hc : c ≤ 1000000) :
  Yields 129 [v] H (fun v H' => OM H.length H' v (mx c r fun i j => E j i)) := by
 refine y_raw (by decide) Tryz.func129 rfl ?_
 intro lk hlk
 have hk := r5_Cols hv
 rw [cols_mx _ _ _ h0] at hk
 obtain ⟨av, rfl⟩ := hv.is
 simp only [mx_len] at hv hk ⊢
 simp -dsimp only [go_sem, hk]
 refine ob_y (r5_Zero c r hc hr) hlk ?_
 rintro v1 H1 hE1 ⟨a, xs, rfl, hM⟩
 simp -dsimp only [go_sem]
 refine r_loop (m := fun (i : Nat) => r - i) (I := fun i σ H' => i ≤ r ∧ Ext H H' ∧ MOwn H.length H' a xs (mx c r fun k l => fillE E i 0 l k) ∧ σ 0 = .slice av r r ∧ σ 3 = .slice a c c ∧ σ 12 = .int .i64 (r : Int) ∧ σ 13 = .int .i64 (i : Int)) 0 ⟨Nat.zero_le _, hE1, by rw [fillE_zero]; exact hM, rfl, by rw [mx_len]; rfl, rfl, rfl⟩ ?_
 rintro i σ H' ⟨h1, hE, hM, s0, s3, s12, s13⟩
 by_cases hi : i < r
 ·have f1 := ltI hi
  have e9 := inc64 hi hr
  obtain ⟨p, d, q1, q2, _⟩ := hv.row rowT_M i hi
  have q2 := q2 H' hE
  simp -dsimp only [go_sem, s0, s3, s12, s13, f1, q1, q2]
  refine r_loop (m := fun (j : Nat) => c - j) (I := fun j σ H' => j ≤ c ∧ Ext H H' ∧ MOwn H.length H' a xs (mx c r fun k l => fillE E i j l k) ∧ σ 0 = .slice av r r ∧ σ 3 = .slice a c c ∧ σ 12 = .int .i64 (r : Int) ∧ σ 13 = .int .i64 (i : Int) ∧ σ 4 = .int .i64 (i : Int) ∧ σ 20 = .int .i64 (c : Int) ∧ σ 21 = .int .i64 (j : Int)) 0 ⟨Nat.zero_le _, hE, hM, s0, s3, s12, s13, rfl, rfl, rfl⟩ ?_
  clear s0 s3 s12 s13 hM hE q2 H' σ
  rintro j σ H' ⟨h2, hE, hM, s0, s3, s12, s13, s4, s20, s21⟩
  by_cases hj : j < c
  ·have f2 := ltI hj
   have e7 := inc64 hj hc
   obtain ⟨pa, da, pa2, a1, a2, a3, a4⟩ := hv.ent rowT_M i j hi hj
   have a2 := a2 H' hE
   have a4 := a4 H' hE
   obtain ⟨po, dO, po2, H2, o1, o2, o3, o5, o6, o7⟩ := hM.putx (lk := lk) rowT_M j i hj hi hlk (E i j)
   have hst : (fun k l => if k = j ∧ l = i then E i j else fillE E i j l k) = fun k l => fillE E i (j + 1) l k := by
    rw [← fillE_step E i j]
    funext k l
    show (if k = j ∧ l = i then E i j else fillE E i j l k) = (if l = i ∧ k = j then E i j else fillE E i j l k)
    by_cases h : k = j ∧ l = i
    ·rw [if_pos h, if_pos ⟨h.2, h.1⟩]
    ·rw [if_neg h, if_neg (fun x => h ⟨x.2, x.1⟩)]
   rw [hst] at o6
   simp -dsimp only [go_sem, s0, s3, s4, s12, s13, s20, s21, f2, e7, a1, a2, a3, a4, o1, o2, o3, o5]
   exact next (j + 1) (by show c - (j + 1) < c - j; omega) ⟨hj, o7 H (Nat.le_refl _) hE, o6, s0, s3, s12, s13, s4, s20, rfl⟩
  ·have hj' : j = c := by omega
   subst hj'
   have f2 := nltI j
   have hrow : mx j r (fun k l => fillE E i j l k) = mx j r (fun k l => fillE E (i + 1) 0 l k) := mx_congr fun k l hk _ => by
    unfold fillE
    by_cases h : l < i ∨ (l = i ∧ k < j)
    ·rw [if_pos h, if_pos (by omega)]
    ·rw [if_neg h, if_neg (by omega)]
   rw [hrow] at hM
   simp -dsimp only [go_sem, s0, s3, s4, s12, s13, s20, s21, f2, e9]
   exact next (i + 1) (by show r - (i + 1) < r - i; omega) ⟨hi, hE, hM, s0, s3, s12, rfl⟩
 ·have hi' : i = r := by omega
  subst hi'
  have f1 := nltI i
  have hend : mx c i (fun k l => fillE E i 0 l k) = mx c i (fun k l => E l k) := mx_congr fun k l _ hl => by
   unfold fillE; rw [if_pos (.inl hl)]
  rw [hend] at hM
  simp -dsimp only [go_sem, s0, s3, s12, s13, f1]
  exact ⟨hE, a, xs, by rw [mx_len], hM⟩
def sumQ (G : Nat → Rat) : Nat → Rat
 | 0 => 0
 | n + 1 => sumQ G n + G n
abbrev rZ : List Value := [.bool false, .string (mkS []), .string (mkS [])]
def mulE (E F : Nat → Nat → Rat) (n : Nat) : Nat → Nat → Rat := fun i j => sumQ (fun k => F k j * E i k) n
structure MulEOk (E F : Nat → Nat → Rat) (r n c : Nat) : Prop where
 a : ∀ i k, i < r → k < n → Sz (E i k)
 b : ∀ k j, k < n → j < c → Sz (F k j)
 p : ∀ i k j, i < r → k < n → j < c → Sz (F k j * E i k)
 s : ∀ i k j, i < r → k < n → j < c → Sz (sumQ (fun k => F k j * E i k) k)
theorem Own.putq {lo lk : Nat} {H : Heap} {a : Option Addr} {l : List Rat} {t : TypeId} (he : telem Tryz.prog t = some 55) (h : Own lo H a l) (j : Nat) (hj : j < l.length) (hlk : lk ≤ lo) (q : Rat) :
  ∃ p H2, iindexAddr Tryz.prog t (.slice a l.length l.length) (.int .i64 (j : Int)) = some p ∧ iload Tryz.prog H 55 p = some (vR l[j]) ∧ istore Tryz.prog lk H 55 p (vR q) = some H2 ∧ Own lo H2 a (l.set j q) ∧ (∀ H0 : Heap, H0.length ≤ lo → Ext H0 H → Ext H0 H2) ∧ ∃ b B, a = some ⟨b, 0, none⟩ ∧ b < H.length ∧ H2 = H.set b B := by
 obtain ⟨p, h3, h4⟩ := h.sl.ix j hj he
 have h4 := h4 H (Ext.refl H)
 rcases h with ⟨_, h0⟩ | ⟨b, rfl, hb1, hb2⟩
 ·rw [h0] at hj; simp at hj
 ·refine ⟨p, H.set b (lblk (l.set j q)), h3, h4, ?_, .inr ⟨b, rfl, hb1, ilive_set_self (ilive_lt hb2) rfl⟩, fun H0 hl hE => hE.set (by omega) _, b, _, rfl, ilive_lt hb2, rfl⟩
  have hjl : (j : Int) < (l.length : Int) := by omega
  simp -dsimp only [go_sem, he, hj] at h3
  injection h3 with h3
  subst h3
  have hput : iput (cells l) (j * 3) (rC q) = cells (l.set j q) := cells_put l j q hj
  have hcl : (cells l).length = l.length * 3 := cells_len _
  have hle : lk ≤ b := by omega
  simp -dsimp only [go_sem, hb2, lblk_c, hput, hle, hcl]
  have : j * 3 + 2 < l.length * 3 := by omega
  rw [if_pos this]
  rfl
def flP (E : Nat → Nat → Rat) (n : Nat) : Nat → (Nat → Nat → Rat) × Rat
 | 0 => (fun _ _ => 0, 1)
 | k + 1 =>
  let s := flP E n k
  let S := fun i j => mulE E s.1 n i j + (if i = j then 1 else 0) * s.2
  (S, -(sumQ (fun i => mulE E S n i i) n / (((k + 1 : Nat) : Int) : Rat)))
def flC (E : Nat → Nat → Rat) (n k : Nat) : Rat := (flP E n k).2
def flS (E : Nat → Nat → Rat) (n k : Nat) : Nat → Nat → Rat := (flP E n k).1
structure FlOk (E : Nat → Nat → Rat) (n : Nat) : Prop where
 m : ∀ k, k ≤ n → MulEOk E (flS E n k) n n n
 e : ∀ k i j, k ≤ n → i < n → j < n → Sz (mulE E (flS E n k) n i j)
 c : ∀ k, k ≤ n → Sz (flC E n k)
 d : ∀ k i j, k ≤ n → i < n → j < n → Sz ((if i = j then 1 else 0) * flC E n k)
 t : ∀ k i, k ≤ n → i ≤ n → Sz (sumQ (fun l => mulE E (flS E n k) n l l) i)
def flL (E : Nat → Nat → Rat) (n k : Nat) : List Rat := mapR (fun i => if n ≤ i + k then flC E n (n - i) else 0) (n + 1)
theorem OM.set {lo b : Nat} {H : Heap} {v : Value} {M : List (List Rat)} (h : OM lo H v M) (hb : b < lo) (B : Blk) : OM lo (H.set b B) v M := by
 obtain ⟨a, xs, h1, h2⟩ := h
 have key : ∀ {α : Type} [Enc α] {a : Option Addr} {l : List α}, Own lo H a l → Own lo (H.set b B) a l := fun hO => by
  rcases hO with h3 | ⟨c, rfl, h4, h5⟩
  ·exact .inl h3
  ·exact .inr ⟨c, rfl, h4, by rw [ilive_set_ne (by omega)]; exact h5⟩
 exact ⟨a, xs, h1, key h2.out, h2.len, fun i h3 h4 => ⟨(h2.row i h3 h4).1, key (h2.row i h3 h4).2⟩, h2.ne⟩
def FV (H : Heap) (v : Value) (m : List Rat) : Prop := ∃ a, v = .agg (List.toArray [.slice a m.length m.length]) ∧ SL H a m
theorem FV.ext {H H' : Heap} {v : Value} {m : List Rat} (h : FV H v m) (hE : Ext H H') : FV H' v m := let ⟨a, h1, h2⟩ := h; ⟨a, h1, hE.sl h2⟩
theorem r30_Degree {H : Heap} {v : Value} {m : List Rat} (hv : FV H v m) (hm : m ≠ []) (hl : m.length ≤ 1000000) (lk : Nat) : gcall Tryz.prog md lk 70 [v] H = some (.int .i64 ((m.length - 1 : Nat) : Int), H) := by
 obtain ⟨a, rfl, hs⟩ := hv
 have h0 := List.length_pos_iff.2 hm
 refine gcall_val rfl Tryz.func70 rfl rfl ?_
 have e1 : IntKind.i64.wrap ((m.length : Int) - 1) = ((m.length - 1 : Nat) : Int) := by rw [w64 (by omega) (by omega)]; omega
 simp -dsimp only [go_sem, e1]
theorem r30_Reduce {H : Heap} {v w : Value} {m f : List Rat} (hv : FV H v m) (hw : LV H w f) (hm : m ≠ []) (nm : Nrm m) (ok : DvOk f m) (lm : m.length ≤ 200000) (lf : f.length ≤ 200000) :
  Yields 81 [v, w] H (fun v H' => OV H.length H' v (pMod f m)) := by
 refine y_raw (by decide) Tryz.func81 rfl ?_
 intro lk hlk
 obtain ⟨a, rfl, hs⟩ := hv
 simp -dsimp only [go_sem]
 have hE0 := Ext.app H [⟨[.slice a m.length m.length], 1, false⟩]
 have hl0 := hE0.le
 refine ob_y (r6_Mod (hw.ext hE0) ⟨a, rfl, hE0.sl hs⟩ hm nm ok lf lm) (by omega) ?_
 rintro v1 H1 hE1 ⟨b, rfl, hO⟩
 simp -dsimp only [go_sem]
 exact ⟨hE0.trans hE1, b, rfl, hO.low hl0⟩
structure MulModOk (m f g : List Rat) : Prop where
 p : MulOk f g
 d : DvOk (pMul f g) m
def pMulM (m f g : List Rat) : List Rat := pMod (pMul f g) m
def pRow (n : Nat) (f : List Rat) : List Rat := mapR (qf f) n
theorem r30_Row {H : Heap} {v w : Value} {m f : List Rat} (hv : FV H v m) (hw : LV H w f) (hm : m ≠ []) (lm : m.length ≤ 200000) (lf : f.length ≤ 200000) :
  Yields 74 [v, w] H (fun v H' => OV H.length H' v (pRow (m.length - 1) f)) := by
 refine y_raw (by decide) Tryz.func74 rfl ?_
 intro lk hlk
 obtain ⟨a, rfl, hs⟩ := hv
 obtain ⟨b, rfl, ht⟩ := hw
 unfold pRow
 obtain ⟨n, hn⟩ : ∃ n, n = m.length - 1 := ⟨_, rfl⟩
 have hkd : ∀ H', Ext H H' → ∀ lk, gcall Tryz.prog md lk 70 [.agg (List.toArray [.slice a m.length m.length])] H' = some (.int .i64 ((m.length - 1 : Nat) : Int), H') := fun H' hE lk => r30_Degree ⟨a, rfl, hE.sl hs⟩ hm (by omega) lk
 rw [← hn] at hkd ⊢
 simp -dsimp only [go_sem]
 obtain ⟨H1, hH1⟩ : ∃ H1, H1 = H ++ [⟨[.slice a m.length m.length], 1, false⟩] := ⟨_, rfl⟩
 have hE0 : Ext H H1 := by rw [hH1]; exact Ext.app _ _
 have hb : ilive H1 H.length = some ⟨[.slice a m.length m.length], 1, false⟩ := by rw [hH1]; exact ilive_new _ _
 have hl0 := hE0.le
 rw [← hH1]
 refine r_loop (m := fun (s : Nat × Option Addr) => n - s.1) (I := fun s σ H' => s.1 ≤ n ∧ Ext H1 H' ∧ Own H1.length H' s.2 (mapR (qf f) s.1) ∧ σ 2 = .pointer (some ⟨H.length, 0, none⟩) ∧ σ 1 = .slice b f.length f.length ∧ σ 5 = .slice s.2 s.1 s.1 ∧ σ 6 = .int .i64 (s.1 : Int)) (0, none) ⟨Nat.zero_le _, Ext.refl _, Own.nil, rfl, rfl, rfl, rfl⟩ ?_
 rintro ⟨i, c⟩ σ H' ⟨h1, hE, hO, s2, s1, s5, s6⟩
 simp only at h1 hO s5 s6
 have hlen := mapR_len (qf f) i
 have hb' := hE.live hb
 have hk := hkd H' (hE0.trans hE)
 by_cases hi : i < n
 ·have f1 := ltI hi
  have e7 := inc64 hi (by omega)
  have hap := ap_rat (lk := lk) (t := 22) (t2 := 22) te_Rats te_Rats hO (by omega) hlen.symm (by omega) (qf f i)
  have hO2 := own_rat hE hO (qf f i) [⟨rC (qf f i), 3, false⟩]
  rw [← mapR_succ] at hO2
  by_cases hil : i < f.length
  ·have f2 := ltI hil
   obtain ⟨p, hp, hld⟩ := ht.ix i hil te_Poly
   have hld := hld H' (hE0.trans hE)
   rw [← qf_lt hil] at hld
   simp -dsimp only [go_sem, s1, s2, s5, s6, hb', hk, f1, f2, hp, hld, reps, hap, e7]
   exact next (i + 1, _) (by show n - (i + 1) < n - i; omega) ⟨hi, ext_rat hE hO _ _, hO2, s2, s1, rfl, rfl⟩
  ·have f2 : ((i : Int) < (f.length : Int)) = False := eq_false (by omega)
   have hz : qf f i = 0 := qf_ge (by omega)
   rw [hz] at hap hO2
   simp -dsimp only [go_sem, s1, s2, s5, s6, hb', hk, f1, f2, r3_zero, reps, hap, e7]
   exact next (i + 1, _) (by show n - (i + 1) < n - i; omega) ⟨hi, ext_rat hE hO _ _, hO2, s2, s1, rfl, rfl⟩
 ·have hi' : i = n := by omega
  subst hi'
  have f1 := nltI i
  simp -dsimp only [go_sem, s1, s2, s5, s6, hb', hk, f1]
  exact ⟨hE0.trans hE, c, by rw [hlen], hO.low hl0⟩
def matE (m f : List Rat) (i : Nat) : Nat → Rat := qf (pMulM m f (pMod (pMono 1 i) m))
structure MatOk (m f : List Rat) : Prop where
 r : ∀ i, i < m.length - 1 → DvOk (pMono 1 i) m
 p : ∀ i, i < m.length - 1 → MulModOk m f (pMod (pMono 1 i) m)
theorem p_PCoef {H : Heap} {v : Value} {f : List Rat} (hv : LV H v f) (i : Nat) (lk : Nat) : gcall Tryz.prog md lk 54 [v, .int .i64 (i : Int)] H = some (vR (qf f i), H) := by
 obtain ⟨a, rfl, hs⟩ := hv
 refine gcall_val rfl Tryz.func54 rfl rfl ?_
 have c0 := fun lk H' => c_Int lk H' 0 (by omega)
 have f0 : ((i : Int) < 0) = False := eq_false (by omega)
 by_cases hi : i < f.length
 ·obtain ⟨p, hp, hld⟩ := hs.ix i hi te_Poly
  have hld := fun N => hld (H ++ N) (Ext.app H N)
  have f1 : ((f.length : Int) ≤ (i : Int)) = False := eq_false (by omega)
  rw [qf_lt hi]
  simp -dsimp only [go_sem, f0, f1, hp, hld]
 ·have f1 : ((f.length : Int) ≤ (i : Int)) = True := eq_true (by omega)
  rw [qf_ge (by omega)]
  simp -dsimp only [go_sem, f0, f1, c0]
  rfl
instance : Enc (Option Rat) := ⟨fun q => match q with
 | none => rZ
 | some q => rC q, 3, fun q => by cases q <;> rfl⟩
theorem cells_some (l : List Rat) : cells (l.map some) = cells l := by
 induction l with
 | nil => rfl
 | cons x l ih => rw [List.map_cons, cells_cons, cells_cons, ih]; rfl
theorem cells_none (n : Nat) : reps rZ n = cells (List.replicate n (none : Option Rat)) := by
 induction n with
 | zero => rfl
 | succ n ih => rw [reps, ih, List.replicate_succ, cells_cons]; rfl
theorem Own.done {lo : Nat} {H : Heap} {a : Option Addr} {l : List Rat} (h : Own lo H a (l.map some)) : Own lo H a l := by
 rcases h with ⟨h1, h2⟩ | ⟨b, h1, h2, h3⟩
 ·exact .inl ⟨h1, by simpa using h2⟩
 ·refine .inr ⟨b, h1, h2, ?_⟩
  rw [h3]; unfold lblk; rw [cells_some]; rfl
def upO (F : Nat → Rat) (n i : Nat) : List (Option Rat) := (List.range n).map fun k => if k < i then some (F k) else none
theorem upO_len (F : Nat → Rat) (n i : Nat) : (upO F n i).length = n := by simp [upO]
theorem upO_zero (F : Nat → Rat) (n : Nat) : upO F n 0 = List.replicate n none := by
 refine List.ext_getElem (by simp [upO]) fun k h1 h2 => ?_
 simp [upO]
theorem upO_end (F : Nat → Rat) (n : Nat) : upO F n n = (mapR F n).map some := by
 refine List.ext_getElem (by simp [upO, mapR]) fun k h1 h2 => ?_
 rw [upO_len] at h1
 simp [upO, mapR, h1]
theorem upO_set (F : Nat → Rat) (n i : Nat) : (upO F n i).set i (some (F i)) = upO F n (i + 1) := by
 refine List.ext_getElem (by simp [upO]) fun k h1 h2 => ?_
 rw [List.getElem_set]
 simp only [upO, List.getElem_map, List.getElem_range]
 by_cases h : i = k
 ·subst h; rw [if_pos rfl, if_pos (Nat.lt_succ_self _)]
 ·rw [if_neg h]
  by_cases h3 : k < i
  ·rw [if_pos h3, if_pos (by omega)]
  ·rw [if_neg h3, if_neg (by omega)]
theorem Own.puto {lo lk : Nat} {H : Heap} {a : Option Addr} {l : List (Option Rat)} {t : TypeId} (he : telem Tryz.prog t = some 55) (h : Own lo H a l) (j : Nat) (hj : j < l.length) (hlk : lk ≤ lo) (q : Rat) :
  ∃ p H2, iindexAddr Tryz.prog t (.slice a l.length l.length) (.int .i64 (j : Int)) = some p ∧ istore Tryz.prog lk H 55 p (vR q) = some H2 ∧ Own lo H2 a (l.set j (some q)) ∧ (∀ H0 : Heap, H0.length ≤ lo → Ext H0 H → Ext H0 H2) := by
 rcases h with ⟨_, h0⟩ | ⟨b, rfl, hb1, hb2⟩
 ·rw [h0] at hj; simp at hj
 ·refine ⟨.pointer (some ⟨b, j * 3, none⟩), H.set b (lblk (l.set j (some q))), ?_, ?_, .inr ⟨b, rfl, hb1, ilive_set_self (ilive_lt hb2) rfl⟩, fun H0 hl hE => hE.set (by omega) _⟩
  ·have hjl : (j : Int) < (l.length : Int) := by omega
   simp -dsimp only [go_sem, he, hj]
  ·have hput : iput (cells l) (j * 3) (rC q) = cells (l.set j (some q)) := cells_put l j (some q) hj
   have hcl : (cells l).length = l.length * 3 := cells_len _
   have hle : lk ≤ b := by omega
   simp -dsimp only [go_sem, hb2, lblk_c, hput, hle, hcl]
   have : j * 3 + 2 < l.length * 3 := by omega
   rw [if_pos this]
   rfl
theorem own_make {lo : Nat} {H : Heap} (n : Nat) (hl : lo ≤ H.length) : Own lo (H ++ [⟨reps rZ n, 3, false⟩]) (some ⟨H.length, 0, none⟩) (List.replicate n (none : Option Rat)) :=
 .inr ⟨_, rfl, hl, by rw [ilive_new, cells_none]; rfl⟩
theorem p_PTrimY {H : Heap} {v : Value} {f : List Rat} (hl : f.length ≤ 1000000) (hv : LV H v f) (lk : Nat) : ∃ w, gcall Tryz.prog md lk 98 [v] H = some (w, H) ∧ LV H w (trm f) := by
 obtain ⟨a, rfl, hs⟩ := hv
 refine ⟨_, p_PTrim lk H a f f.length rfl (by omega) hs, a, by rw [trm_len], hs.take _ (trimQ_le _ _)⟩
theorem mk64 {n : Nat} (h : n ≤ 1000000) : (0 ≤ (n : Int) ∧ (n : Int) ≤ (n : Int) ∧ ((40 : Nat) : Int) * (n : Int) ≤ 281474976710656 ∧ (n : Int) < 4611686018427387904) := by omega
theorem p_PAdd {H : Heap} {v w : Value} {f g : List Rat} (hv : LV H v f) (hw : LV H w g) (zf : SzL f) (zg : SzL g) (lf : f.length ≤ 500000) (lg : g.length ≤ 500000) :
  Yields 50 [v, w] H (fun v H' => LV H' v (pAdd f g)) := by
 obtain ⟨a, rfl, hs⟩ := hv
 obtain ⟨b, rfl, ht⟩ := hw
 refine y_raw (by decide) Tryz.func50 rfl ?_
 intro lk hlk
 have hmx := imax_nat f.length g.length
 have hm1 : max f.length g.length ≤ 500000 := by omega
 unfold pAdd
 generalize max f.length g.length = mx at hmx hm1
 obtain ⟨F, hF⟩ : ∃ F : Nat → Rat, F = fun i => qf f i + qf g i := ⟨_, rfl⟩
 rw [← hF]
 obtain ⟨m1, m2, m3, m4⟩ := mk64 (n := mx) (by omega)
 simp -dsimp only [go_sem, hmx, m3, m4]
 refine r_loop (m := fun (i : Nat) => mx - i) (I := fun i σ H' => i ≤ mx ∧ Ext H H' ∧ Own H.length H' (some ⟨H.length, 0, none⟩) (upO F mx i) ∧ σ 0 = .slice a f.length f.length ∧ σ 1 = .slice b g.length g.length ∧ σ 5 = .slice (some ⟨H.length, 0, none⟩) mx mx ∧ σ 14 = .int .i64 (mx : Int) ∧ σ 15 = .int .i64 (i : Int)) 0 ⟨Nat.zero_le _, Ext.app _ _, by rw [upO_zero]; exact own_make mx (Nat.le_refl _), rfl, rfl, rfl, rfl, rfl⟩ ?_
 rintro i σ H' ⟨h1, hE, hO, s0, s1, s5, s14, s15⟩
 by_cases hi : i < mx
 ·have f1 := ltI hi
  have e7 := inc64 hi (by omega)
  have k1 := p_PCoef (v := .slice a f.length f.length) ⟨a, rfl, hE.sl hs⟩ i
  have k2 := p_PCoef (v := .slice b g.length g.length) ⟨b, rfl, hE.sl ht⟩ i
  have k3 := fun lk H' => c_Add lk H' (qf f i) (qf g i) (zf.qf i) (zg.qf i)
  have hFi : qf f i + qf g i = F i := by rw [hF]
  rw [hFi] at k3
  obtain ⟨p, H2, q1, q2, q3, q4⟩ := hO.puto (lk := lk) te_Rats i (by rw [upO_len]; exact hi) hlk (F i)
  rw [upO_len] at q1
  rw [upO_set] at q3
  simp -dsimp only [go_sem, s0, s1, s5, s14, s15, f1, k1, k2, k3, q1, q2, e7]
  exact next (i + 1) (by show mx - (i + 1) < mx - i; omega) ⟨hi, q4 H (Nat.le_refl _) hE, q3, s0, s1, s5, s14, rfl⟩
 ·have hi' : i = mx := by omega
  subst hi'
  have f1 := nltI i
  rw [upO_end] at hO
  obtain ⟨w, k1, k2⟩ := p_PTrimY (v := .slice (some ⟨H.length, 0, none⟩) i i) (f := mapR F i) (by rw [mapR_len]; omega) ⟨_, by rw [mapR_len], hO.done.sl⟩ lk
  simp -dsimp only [go_sem, s0, s1, s5, s14, s15, f1, k1]
  exact ⟨hE, k2⟩
def pDif (f g : List Rat) : List Rat := trm (mapR (fun i => qf f i - qf g i) (max f.length g.length))
theorem pDif_eq (f g : List Rat) : pDif f g = pSub f g := nrm_ext (nrm_trm _) (nrm_sub _ _) fun i => by
 rw [qf_sub]
 unfold pDif
 rw [qf_trm, qf_mapR]
 split
 ·rfl
 ·rw [qf_ge (f := f) (by omega), qf_ge (f := g) (by omega), Rat.sub_self]
theorem p_PSub {H : Heap} {v w : Value} {f g : List Rat} (hv : LV H v f) (hw : LV H w g) (zf : SzL f) (zg : SzL g) (lf : f.length ≤ 500000) (lg : g.length ≤ 500000) :
  Yields 51 [v, w] H (fun v H' => LV H' v (pDif f g)) := by
 obtain ⟨a, rfl, hs⟩ := hv
 obtain ⟨b, rfl, ht⟩ := hw
 refine y_raw (by decide) Tryz.func51 rfl ?_
 intro lk hlk
 have hmx := imax_nat f.length g.length
 have hm1 : max f.length g.length ≤ 500000 := by omega
 unfold pDif
 generalize max f.length g.length = mx at hmx hm1
 obtain ⟨F, hF⟩ : ∃ F : Nat → Rat, F = fun i => qf f i - qf g i := ⟨_, rfl⟩
 rw [← hF]
 obtain ⟨m1, m2, m3, m4⟩ := mk64 (n := mx) (by omega)
 simp -dsimp only [go_sem, hmx, m3, m4]
 refine r_loop (m := fun (i : Nat) => mx - i) (I := fun i σ H' => i ≤ mx ∧ Ext H H' ∧ Own H.length H' (some ⟨H.length, 0, none⟩) (upO F mx i) ∧ σ 0 = .slice a f.length f.length ∧ σ 1 = .slice b g.length g.length ∧ σ 5 = .slice (some ⟨H.length, 0, none⟩) mx mx ∧ σ 14 = .int .i64 (mx : Int) ∧ σ 15 = .int .i64 (i : Int)) 0 ⟨Nat.zero_le _, Ext.app _ _, by rw [upO_zero]; exact own_make mx (Nat.le_refl _), rfl, rfl, rfl, rfl, rfl⟩ ?_
 rintro i σ H' ⟨h1, hE, hO, s0, s1, s5, s14, s15⟩
 by_cases hi : i < mx
 ·have f1 := ltI hi
  have e7 := inc64 hi (by omega)
  have k1 := p_PCoef (v := .slice a f.length f.length) ⟨a, rfl, hE.sl hs⟩ i
  have k2 := p_PCoef (v := .slice b g.length g.length) ⟨b, rfl, hE.sl ht⟩ i
  have k3 := fun lk H' => c_Sub lk H' (qf f i) (qf g i) (zf.qf i) (zg.qf i)
  have hFi : qf f i - qf g i = F i := by rw [hF]
  rw [hFi] at k3
  obtain ⟨p, H2, q1, q2, q3, q4⟩ := hO.puto (lk := lk) te_Rats i (by rw [upO_len]; exact hi) hlk (F i)
  rw [upO_len] at q1
  rw [upO_set] at q3
  simp -dsimp only [go_sem, s0, s1, s5, s14, s15, f1, k1, k2, k3, q1, q2, e7]
  exact next (i + 1) (by show mx - (i + 1) < mx - i; omega) ⟨hi, q4 H (Nat.le_refl _) hE, q3, s0, s1, s5, s14, rfl⟩
 ·have hi' : i = mx := by omega
  subst hi'
  have f1 := nltI i
  rw [upO_end] at hO
  obtain ⟨w, k1, k2⟩ := p_PTrimY (v := .slice (some ⟨H.length, 0, none⟩) i i) (f := mapR F i) (by rw [mapR_len]; omega) ⟨_, by rw [mapR_len], hO.done.sl⟩ lk
  simp -dsimp only [go_sem, s0, s1, s5, s14, s15, f1, k1]
  exact ⟨hE, k2⟩
theorem p_PSubS {H : Heap} {v w : Value} {f g : List Rat} (hv : LV H v f) (hw : LV H w g) (zf : SzL f) (zg : SzL g) (lf : f.length ≤ 500000) (lg : g.length ≤ 500000) :
  Yields 51 [v, w] H (fun v H' => LV H' v (pSub f g)) := by
 rw [← pDif_eq]; exact p_PSub hv hw zf zg lf lg
def pOf (l : List MI) : List Rat := trm (l.map fun x => ((x.v : Int) : Rat))
theorem p_POf {H : Heap} {v : Value} {l : List MI} (hv : LV H v l) (hl : l.length ≤ 1000000) (hi : ∀ x ∈ l, I64 x.v) : Yields 48 [v] H (fun v H' => LV H' v (pOf l)) := by
 obtain ⟨a, rfl, hs⟩ := hv
 refine y_raw (by decide) Tryz.func48 rfl ?_
 intro lk hlk
 obtain ⟨F, hF⟩ : ∃ F : Nat → Rat, F = fun i => (((l.getD i ⟨0⟩).v : Int) : Rat) := ⟨_, rfl⟩
 have hmap : l.map (fun x => ((x.v : Int) : Rat)) = mapR F l.length := by
  refine List.ext_getElem (by simp [mapR]) fun i h1 h2 => ?_
  rw [List.length_map] at h1
  simp [mapR, hF, h1]
 unfold pOf
 rw [hmap]
 obtain ⟨m1, m2, m3, m4⟩ := mk64 (n := l.length) (by omega)
 simp -dsimp only [go_sem, m3, m4]
 refine r_loop (m := fun (i : Nat) => l.length - i) (I := fun i σ H' => i ≤ l.length ∧ Ext H H' ∧ Own H.length H' (some ⟨H.length, 0, none⟩) (upO F l.length i) ∧ σ 9 = .slice a l.length l.length ∧ σ 3 = .slice (some ⟨H.length, 0, none⟩) l.length l.length ∧ σ 10 = .int .i64 (l.length : Int) ∧ σ 11 = .int .i64 (i : Int)) 0 ⟨Nat.zero_le _, Ext.app _ _, by rw [upO_zero]; exact own_make _ (Nat.le_refl _), rfl, rfl, rfl, rfl⟩ ?_
 rintro i σ H' ⟨h1, hE, hO, s9, s3, s10, s11⟩
 by_cases hil : i < l.length
 ·have f1 := ltI hil
  have e7 := inc64 hil (by omega)
  obtain ⟨b, o, B, rfl, hB, hz, hg⟩ := hs.mi i hil
  have hB' := hE.live hB
  have k1 := fun lk H' => c_Int lk H' l[i].v (hi _ (List.getElem_mem hil))
  have hFi : ((l[i].v : Int) : Rat) = F i := by simp [hF, hil]
  rw [hFi] at k1
  obtain ⟨p, H2, q1, q2, q3, q4⟩ := hO.puto (lk := lk) te_Rats i (by rw [upO_len]; exact hil) hlk (F i)
  rw [upO_len] at q1
  rw [upO_set] at q3
  simp -dsimp only [go_sem, s9, s3, s10, s11, f1, hB', hz, hg, hil, k1, q1, q2, e7]
  exact next (i + 1) (by show l.length - (i + 1) < l.length - i; omega) ⟨hil, q4 H (Nat.le_refl _) hE, q3, s9, s3, s10, rfl⟩
 ·have hi' : i = l.length := by omega
  subst hi'
  have f1 := nltI l.length
  rw [upO_end] at hO
  obtain ⟨w, k1, k2⟩ := p_PTrimY (v := .slice (some ⟨H.length, 0, none⟩) l.length l.length) (f := mapR F l.length) (by rw [mapR_len]; omega) ⟨_, by rw [mapR_len], hO.done.sl⟩ lk
  simp -dsimp only [go_sem, s9, s3, s10, s11, f1, k1]
  exact ⟨hE, k2⟩
def pmE (f g : List Rat) (I J : Nat) : Nat → Rat := fun k => if I ≤ k ∧ k < I + J then mulTo f g k (I + 1) else mulTo f g k I
theorem pmE_zero (f g : List Rat) (I : Nat) : pmE f g I 0 = fun k => mulTo f g k I := by
 funext k; unfold pmE; rw [if_neg (by omega)]
theorem pmE_row (f g : List Rat) (I : Nat) : pmE f g I g.length = fun k => mulTo f g k (I + 1) := by
 funext k; unfold pmE
 split
 ·rfl
 ·rename_i h
  rw [mulTo, if_neg (by omega)]
theorem pmE_skip {f : List Rat} (g : List Rat) {I : Nat} (h : qf f I = 0) : (fun k => mulTo f g k I) = fun k => mulTo f g k (I + 1) := by
 funext k
 rw [mulTo, h]
 split
 ·rw [Rat.zero_mul, Rat.add_zero]
 ·rfl
theorem pmE_at (f g : List Rat) (I J : Nat) : pmE f g I J (I + J) = mulTo f g (I + J) I := by unfold pmE; rw [if_neg (by omega)]
theorem pmE_next (f g : List Rat) (I J : Nat) (hJ : J < g.length) : mulTo f g (I + J) I + qf f I * qf g J = mulTo f g (I + J) (I + 1) := by
 rw [mulTo, if_pos ⟨by omega, by omega⟩]
 congr 3; omega
theorem pmE_succ (f g : List Rat) (I J : Nat) : (fun k => if k = I + J then mulTo f g (I + J) (I + 1) else pmE f g I J k) = pmE f g I (J + 1) := by
 funext k
 unfold pmE
 by_cases h : k = I + J
 ·rw [if_pos h, if_pos (by omega), h]
 ·rw [if_neg h]
  by_cases h2 : I ≤ k ∧ k < I + J
  ·rw [if_pos h2, if_pos (by omega)]
  ·rw [if_neg h2, if_neg (by omega)]
theorem mapR_set (F : Nat → Rat) (n j : Nat) (q : Rat) : (mapR F n).set j q = mapR (fun k => if k = j then q else F k) n := by
 refine List.ext_getElem (by simp [mapR]) fun k h1 h2 => ?_
 rw [List.getElem_set, mapR_get, mapR_get]
 by_cases h : j = k
 ·rw [if_pos h, if_pos h.symm]
 ·rw [if_neg h, if_neg (fun x => h x.symm)]
theorem p_PMul {H : Heap} {v w : Value} {f g : List Rat} (hv : LV H v f) (hw : LV H w g) (ok : MulOk f g) (lf : f.length ≤ 400000) (lg : g.length ≤ 400000) :
  Yields 53 [v, w] H (fun v H' => LV H' v (pMul f g)) := by
 obtain ⟨a, rfl, hs⟩ := hv
 obtain ⟨b, rfl, ht⟩ := hw
 refine y_raw (by decide) Tryz.func53 rfl ?_
 intro lk hlk
 by_cases h0 : f.length = 0
 ·have f1 : ((f.length : Int) = 0) = True := eq_true (by omega)
  have : f = [] := List.eq_nil_of_length_eq_zero h0
  simp -dsimp only [go_sem, f1]
  rw [this, pMul_nil]
  exact ⟨Ext.refl _, LV.nil⟩
 have f1 : ((f.length : Int) = 0) = False := eq_false (by omega)
 by_cases h0' : g.length = 0
 ·have f2 : ((g.length : Int) = 0) = True := eq_true (by omega)
  have : g = [] := List.eq_nil_of_length_eq_zero h0'
  simp -dsimp only [go_sem, f1, f2]
  rw [this, pMul_comm, pMul_nil]
  exact ⟨Ext.refl _, LV.nil⟩
 have f2 : ((g.length : Int) = 0) = False := eq_false (by omega)
 obtain ⟨n, hn⟩ : ∃ n, n = f.length + g.length - 1 := ⟨_, rfl⟩
 have e1 : IntKind.i64.wrap (IntKind.i64.wrap ((f.length : Int) + (g.length : Int)) - 1) = (n : Int) := by rw [w64 (n := (f.length : Int) + (g.length : Int)) (by omega) (by omega), w64 (by omega) (by omega)]; omega
 obtain ⟨m1, m2, m3, m4⟩ := mk64 (n := n) (by omega)
 have c0 := fun lk H' => c_Int lk H' 0 (by omega)
 simp -dsimp only [go_sem, f1, f2, e1, m3, m4]
 refine r_loop (m := fun (i : Nat) => n - i) (I := fun i σ H' => i ≤ n ∧ Ext H H' ∧ Own H.length H' (some ⟨H.length, 0, none⟩) (upO (fun _ => 0) n i) ∧ σ 0 = .slice a f.length f.length ∧ σ 1 = .slice b g.length g.length ∧ σ 5 = .slice (some ⟨H.length, 0, none⟩) n n ∧ σ 27 = .int .i64 (n : Int) ∧ σ 28 = .int .i64 (i : Int)) 0 ⟨Nat.zero_le _, Ext.app _ _, by rw [upO_zero]; exact own_make n (Nat.le_refl _), rfl, rfl, rfl, rfl, rfl⟩ ?_
 rintro i σ H' ⟨h1, hE, hO, s0, s1, s5, s27, s28⟩
 by_cases hi : i < n
 ·have f3 := ltI hi
  have e7 := inc64 hi (by omega)
  obtain ⟨p, H2, q1, q2, q3, q4⟩ := hO.puto (lk := lk) te_Rats i (by rw [upO_len]; exact hi) hlk 0
  rw [upO_len] at q1
  rw [upO_set (fun _ => 0)] at q3
  rw [show (((0 : Int)) : Rat) = 0 from rfl] at c0
  simp -dsimp only [go_sem, s0, s1, s5, s27, s28, f3, c0, q1, q2, e7]
  exact next (i + 1) (by show n - (i + 1) < n - i; omega) ⟨hi, q4 H (Nat.le_refl _) hE, q3, s0, s1, s5, s27, rfl⟩
 ·have hi' : i = n := by omega
  subst hi'
  have f3 := nltI i
  rw [upO_end] at hO
  replace hO := hO.done
  have hz : mapR (fun _ => (0 : Rat)) i = mapR (fun k => mulTo f g k 0) i := rfl
  rw [hz] at hO
  simp -dsimp only [go_sem, s0, s1, s5, s27, s28, f3]
  refine r_loop (m := fun (I : Nat) => f.length - I) (I := fun I σ H' => I ≤ f.length ∧ Ext H H' ∧ Own H.length H' (some ⟨H.length, 0, none⟩) (mapR (fun k => mulTo f g k I) i) ∧ σ 1 = .slice b g.length g.length ∧ σ 5 = .slice (some ⟨H.length, 0, none⟩) i i ∧ σ 36 = .slice a f.length f.length ∧ σ 37 = .int .i64 (f.length : Int) ∧ σ 38 = .int .i64 (I : Int)) 0 ⟨Nat.zero_le _, hE, hO, s1, s5, rfl, rfl, rfl⟩ ?_
  clear s0 s1 s5 s27 s28 hE hO H' σ
  rintro I σ H' ⟨h2, hE, hO, s1, s5, s36, s37, s38⟩
  have hlo := hE.le
  by_cases hI : I < f.length
  ·have f4 := ltI hI
   have e8 := inc64 hI (by omega)
   obtain ⟨p, hp, hld⟩ := hs.ix I hI te_Poly
   have hld := hld H' hE
   rw [← qf_lt hI] at hld
   have kz := fun lk H' => c_IsZero lk H' (qf f I)
   have hlH : lk ≤ H'.length := by omega
   by_cases hz : qf f I = 0
   ·rw [decide_eq_true hz] at kz
    rw [pmE_skip g hz] at hO
    simp -dsimp only [go_sem, s1, s5, s36, s37, s38, f4, hp, hld, kz, e8, hlH]
    exact next (I + 1) (by show f.length - (I + 1) < f.length - I; omega) ⟨hI, hE.more _, hO.more _, s1, s5, s36, s37, rfl⟩
   ·rw [decide_eq_false hz] at kz
    simp -dsimp only [go_sem, s1, s5, s36, s37, s38, f4, hp, hld, kz, hlH]
    obtain ⟨H1, hH1⟩ : ∃ H1, H1 = H' ++ [⟨rC (qf f I), 3, false⟩] := ⟨_, rfl⟩
    have hbx : ilive H1 H'.length = some ⟨rC (qf f I), 3, false⟩ := by rw [hH1]; exact ilive_new _ _
    have hE1 : Ext H' H1 := by rw [hH1]; exact Ext.app _ _
    have hO1 := hE1.own hO
    have hlH1 := hE1.le
    rw [← hH1]
    refine r_loop (m := fun (J : Nat) => g.length - J) (I := fun J σ H2 => J ≤ g.length ∧ Ext H H2 ∧ H1.length ≤ H2.length ∧ ilive H2 H'.length = some ⟨rC (qf f I), 3, false⟩ ∧ Own H.length H2 (some ⟨H.length, 0, none⟩) (mapR (pmE f g I J) i) ∧ σ 1 = .slice b g.length g.length ∧ σ 5 = .slice (some ⟨H.length, 0, none⟩) i i ∧ σ 36 = .slice a f.length f.length ∧ σ 37 = .int .i64 (f.length : Int) ∧ σ 38 = .int .i64 (I : Int) ∧ σ 7 = .int .i64 (I : Int) ∧ σ 8 = .pointer (some ⟨H'.length, 0, none⟩) ∧ σ 45 = .slice b g.length g.length ∧ σ 46 = .int .i64 (g.length : Int) ∧ σ 47 = .int .i64 (J : Int)) 0 ⟨Nat.zero_le _, hE.trans hE1, Nat.le_refl _, hbx, by rw [pmE_zero]; exact hO1, s1, s5, s36, s37, s38, rfl, rfl, rfl, rfl, rfl⟩ ?_
    clear s1 s5 s36 s37 s38 hld σ
    rintro J σ H2 ⟨h3, hE2, hl2, hbx2, hO2, s1, s5, s36, s37, s38, s7, s8, s45, s46, s47⟩
    by_cases hJ : J < g.length
    ·have f5 := ltI hJ
     have e9 := inc64 hJ (by omega)
     have e10 : IntKind.i64.wrap ((I : Int) + (J : Int)) = ((I + J : Nat) : Int) := by rw [w64 (by omega) (by omega)]; omega
     obtain ⟨q, hq, hldq⟩ := ht.ix J hJ te_Poly
     have hldq := hldq H2 hE2
     rw [← qf_lt hJ] at hldq
     have hO3 := hO2.more [⟨rC (qf g J), 3, false⟩]
     have hbx3 := fun N => ilive_app (N := N) hbx2
     obtain ⟨p5, H5, q1, q2, q3, q4, q5, bb, BB, hbb, _, q7⟩ := hO3.putq (lk := lk) te_Rats (I + J) (by rw [mapR_len]; omega) hlk (mulTo f g (I + J) (I + 1))
     rw [mapR_len] at q1
     rw [mapR_get, pmE_at] at q2
     rw [mapR_set, pmE_succ] at q4
     have k1 := fun lk H' => c_Mul lk H' (qf f I) (qf g J) (ok.zf.qf _) (ok.zg.qf _)
     have k2 := fun lk H' => c_Add lk H' (mulTo f g (I + J) I) (qf f I * qf g J) (ok.s _ _) (ok.p _ _)
     rw [pmE_next f g I J hJ] at k2
     have hlH2 : lk ≤ H2.length := by omega
     simp -dsimp only [go_sem, s1, s5, s7, s8, s36, s37, s38, s45, s46, s47, f5, hq, hldq, hbx3, e10, q1, q2, q3, k1, k2, e9, hlH2]
     cases hbb
     refine next (J + 1) (by show g.length - (J + 1) < g.length - J; omega) ⟨hJ, q5 H (Nat.le_refl _) (hE2.more _), by rw [q7, List.length_set, List.length_append]; omega, ?_, q4, s1, s5, s36, s37, s38, s7, s8, s45, s46, rfl⟩
     rw [q7, ilive_set_ne]
     ·exact ilive_app hbx2
     ·rcases hO with ⟨h, _⟩ | ⟨b', h, _, h5⟩
      ·cases h
      ·cases h
       have := ilive_lt h5
       omega
    ·have hJ' : J = g.length := by omega
     subst hJ'
     have f5 := nltI g.length
     rw [pmE_row] at hO2
     simp -dsimp only [go_sem, s1, s5, s7, s8, s36, s37, s38, s45, s46, s47, f5, e8]
     exact next (I + 1) (by show f.length - (I + 1) < f.length - I; omega) ⟨hI, hE2, hO2, s1, s5, s36, s37, rfl⟩
  ·have hI' : I = f.length := by omega
   subst hI'
   have f4 := nltI f.length
   obtain ⟨w, k1, k2⟩ := p_PTrimY (v := .slice (some ⟨H.length, 0, none⟩) i i) (f := mapR (fun k => mulTo f g k f.length) i) (by rw [mapR_len]; omega) ⟨_, by rw [mapR_len], hO.sl⟩ lk
   simp -dsimp only [go_sem, s1, s5, s36, s37, s38, f4, k1]
   rw [hn] at k2
   exact ⟨hE, k2⟩
theorem isNone_some {α : Type} (x : α) : (some x).isNone = false := rfl
theorem isNone_none {α : Type} : (none : Option α).isNone = true := rfl
theorem s_cloneP {H : Heap} {v : Value} {f : List Rat} (hv : LV H v f) (lf : f.length ≤ 1000000) : Yields 160 [v] H (fun v H' => OV H.length H' v f) := by
 obtain ⟨a, rfl, hs⟩ := hv
 refine y_raw (by decide) Tryz.func160 rfl ?_
 intro lk hlk
 cases a with
 | none =>
  have := hs.none_iff
  subst this
  simp -dsimp only [go_sem, isNone_none]
  exact ⟨Ext.refl _, OV.nil⟩
 | some A =>
  have hO : OwnP H.length (H ++ [⟨[], 3, false⟩]) (some ⟨H.length, 0, none⟩) ([] : List Rat) := .inr ⟨_, _, rfl, Nat.le_refl _, ilive_new _ _, rfl, rfl, Nat.zero_le _⟩
  obtain ⟨a', H2, q1, q2, q3, _⟩ := app_rats (lk := lk) (t := 23) (t2 := 23) te_Poly te_Poly (Ext.app H _) hO ((Ext.app H [⟨[], 3, false⟩]).sl hs) hlk (by simp only [List.length_nil]; omega)
  rw [List.length_nil, Nat.zero_add] at q1
  simp -dsimp only [go_sem, isNone_some, reps, q1]
  exact ⟨q2, a', rfl, q3⟩
structure XdOk (f g : List Rat) : Prop where
 zg : SzL g
 r : ∀ j i, j < f.length - g.length + 1 → Sz (xRest f g j i)
 c : ∀ j, j < f.length - g.length + 1 → Sz (xQ f g j)
 p : ∀ j i, j < f.length - g.length + 1 → Sz (xQ f g j * qf g i)
theorem p_PDivMod {H : Heap} {v w : Value} {f g : List Rat} (hv : LV H v f) (hw : LV H w g) (nf : Nrm f) (hg0 : g ≠ []) (hg : Nrm g) (ok : XdOk f g) (lf : f.length ≤ 500000) (lg : g.length ≤ 500000) :
  Yields 102 [v, w] H (fun v H' => ∃ q r, v = .tuple #[q, r] ∧ LV H' q (pDiv f g) ∧ LV H' r (pMod f g)) := by
 have hgl := List.length_pos_iff.2 hg0
 obtain ⟨a, rfl, hs⟩ := hv
 obtain ⟨b, rfl, ht⟩ := hw
 refine y_raw (by decide) Tryz.func102 rfl ?_
 intro lk hlk
 simp -dsimp only [go_sem]
 refine ob_y (s_cloneP ⟨a, rfl, hs⟩ (by omega)) hlk ?_
 rintro v1 H1 hE1 ⟨c, rfl, hO1⟩
 have hl1 := hE1.le
 by_cases hlt : f.length < g.length
 ·have f1 : ((f.length : Int) < (g.length : Int)) = True := eq_true (by omega)
  have hm := pMod_small nf hlt
  simp -dsimp only [go_sem, f1]
  unfold pDiv pMod
  rw [hm]
  exact ⟨hE1, _, _, rfl, LV.nil, c, rfl, hO1.sl⟩
 have f1 : ((f.length : Int) < (g.length : Int)) = False := eq_false (by omega)
 obtain ⟨x1, x2⟩ := xDiv_eq hg0 hg (by omega : g.length ≤ f.length)
 rw [← x1, ← x2]
 obtain ⟨N, hN⟩ : ∃ N, N = f.length - g.length + 1 := ⟨_, rfl⟩
 have e1 : IntKind.i64.wrap ((f.length : Int) - (g.length : Int)) = ((N : Nat) : Int) - 1 := by rw [w64 (by omega) (by omega)]; omega
 have e2 : IntKind.i64.wrap (((N : Nat) : Int) - 1 + 1) = (N : Int) := by rw [w64 (by omega) (by omega)]; omega
 obtain ⟨m1, m2, m3, m4⟩ := mk64 (n := N) (by omega)
 have c0 := fun lk H' => c_Int lk H' 0 (by omega)
 rw [show (((0 : Int)) : Rat) = 0 from rfl] at c0
 rw [← hN]
 simp -dsimp only [go_sem, f1, e1, e2, m3, m4]
 have hbc : ∀ b' o e, c = some ⟨b', o, e⟩ → b' < H1.length := fun b' o e h => by
  rcases hO1 with ⟨h1, _⟩ | ⟨b2, h1, _, h2⟩
  ·rw [h1] at h; cases h
  ·rw [h1] at h; cases h; exact ilive_lt h2
 refine r_loop (m := fun (i : Nat) => N - i) (I := fun i σ H' => i ≤ N ∧ Ext H1 H' ∧ Own H1.length H' (some ⟨H1.length, 0, none⟩) (upO (fun _ => 0) N i) ∧ σ 0 = .slice a f.length f.length ∧ σ 1 = .slice b g.length g.length ∧ σ 6 = .slice c f.length f.length ∧ σ 7 = .int .i64 (g.length : Int) ∧ σ 8 = .slice (some ⟨H1.length, 0, none⟩) N N ∧ σ 30 = .int .i64 (N : Int) ∧ σ 31 = .int .i64 (i : Int)) 0 ⟨Nat.zero_le _, Ext.app _ _, by rw [upO_zero]; exact own_make N (Nat.le_refl _), rfl, rfl, rfl, rfl, rfl, rfl, rfl⟩ ?_
 rintro i σ H' ⟨h1, hE, hO, s0, s1, s6, s7, s8, s30, s31⟩
 by_cases hi : i < N
 ·have f3 := ltI hi
  have e7 := inc64 hi (by omega)
  obtain ⟨p, H2, q1, q2, q3, q4⟩ := hO.puto (lk := lk) te_Rats i (by rw [upO_len]; exact hi) (by omega) 0
  rw [upO_len] at q1
  rw [upO_set (fun _ => 0)] at q3
  simp -dsimp only [go_sem, s0, s1, s6, s7, s8, s30, s31, f3, c0, q1, q2, e7]
  exact next (i + 1) (by show N - (i + 1) < N - i; omega) ⟨hi, q4 H1 (Nat.le_refl _) hE, q3, s0, s1, s6, s7, s8, s30, rfl⟩
 ·have hi' : i = N := by omega
  subst hi'
  have f3 := nltI i
  rw [upO_end] at hO
  replace hO := hO.done
  have e3 : IntKind.i64.wrap ((g.length : Int) - 1) = ((g.length - 1 : Nat) : Int) := by rw [w64 (by omega) (by omega)]; omega
  obtain ⟨p, hp, hld⟩ := ht.ix (g.length - 1) (by omega) te_Poly
  have hld := hld H' (hE1.trans hE)
  rw [← qf_lt (by omega)] at hld
  have kinv := fun lk H' => c_Inverse lk H' (qf g (g.length - 1)) (hg hg0)
  have hlH' : lk ≤ H'.length := by have := hE.le; omega
  simp -dsimp only [go_sem, s0, s1, s6, s7, s8, s30, s31, f3, e3, hp, hld, kinv, e1, hlH']
  obtain ⟨inv, hinv⟩ : ∃ inv, inv = (qf g (g.length - 1))⁻¹ := ⟨_, rfl⟩
  rw [← hinv]
  have zinv : Sz inv := by rw [hinv]; exact sm_inv (ok.zg.qf _) (by decide)
  obtain ⟨Ha, hHa⟩ : ∃ Ha, Ha = H' ++ [⟨rC inv, 3, false⟩] := ⟨_, rfl⟩
  have hbx : ilive Ha H'.length = some ⟨rC inv, 3, false⟩ := by rw [hHa]; exact ilive_new _ _
  have hEa : Ext H' Ha := by rw [hHa]; exact Ext.app _ _
  have hla := hEa.le
  have hlE := hE.le
  rw [← hHa]
  have hzq : mapR (fun _ => (0 : Rat)) i = mapR (xQs f g 0) i := by rw [xQs_zero]
  rw [hzq] at hO
  have hff : f = mapR (xRest f g 0) f.length := by
   refine List.ext_getElem (by rw [mapR_len]) fun k h1 h2 => ?_
   rw [mapR_get]; exact (qf_lt h1).symm
  have hO1' : Own H.length H1 c (mapR (xRest f g 0) f.length) := by rw [← hff]; exact hO1
  have hc0 : ∃ b', c = some ⟨b', 0, none⟩ ∧ H.length ≤ b' ∧ b' < H1.length := by
   rcases hO1 with ⟨_, h2⟩ | ⟨b2, h1, h2, h3⟩
   ·have h4 : f.length = 0 := by rw [h2]; rfl
    omega
   ·exact ⟨b2, h1, h2, ilive_lt h3⟩
  obtain ⟨b', rfl, hb'1, hb'2⟩ := hc0
  have hqH : H1.length < H'.length := by
   rcases hO with ⟨h, _⟩ | ⟨b2, h, _, h3⟩
   ·cases h
   ·cases h; exact ilive_lt h3
  have inv_live : ∀ {H2 H3 : Heap} {b2 : Nat} {B : Blk}, ilive H2 H'.length = some ⟨rC inv, 3, false⟩ → H3 = H2.set b2 B → b2 < H'.length → ilive H3 H'.length = some ⟨rC inv, 3, false⟩ := fun h1 h2 h3 => by
   rw [h2, ilive_set_ne (by omega)]; exact h1
  refine r_loop (m := fun (j : Nat) => i - j) (I := fun j σ H2 => j ≤ i ∧ Ext H H2 ∧ Ha.length ≤ H2.length ∧ ilive H2 H'.length = some ⟨rC inv, 3, false⟩ ∧ Own H.length H2 (some ⟨b', 0, none⟩) (mapR (xRest f g j) f.length) ∧ Own H1.length H2 (some ⟨H1.length, 0, none⟩) (mapR (xQs f g j) i) ∧ σ 1 = .slice b g.length g.length ∧ σ 6 = .slice (some ⟨b', 0, none⟩) f.length f.length ∧ σ 7 = .int .i64 (g.length : Int) ∧ σ 8 = .slice (some ⟨H1.length, 0, none⟩) i i ∧ σ 10 = .pointer (some ⟨H'.length, 0, none⟩) ∧ σ 11 = .int .i64 ((i : Int) - 1 - (j : Int))) 0 ⟨Nat.zero_le _, hE1.trans (hE.trans hEa), Nat.le_refl _, hbx, (hE.trans hEa).own hO1', hEa.own hO, s1, s6, s7, s8, rfl, by show _ = Value.int .i64 ((i : Int) - 1 - ((0 : Nat) : Int)); rw [Int.natCast_zero, Int.sub_zero]; rfl⟩ ?_
  clear s0 s1 s6 s7 s8 s30 s31 hld σ
  rintro j σ H2 ⟨h2, hE2, hl2, hbx2, hR, hQ, s1, s6, s7, s8, s10, s11⟩
  by_cases hj : j < i
  ·have f4 : (0 ≤ (i : Int) - 1 - (j : Int)) = True := eq_true (by omega)
   obtain ⟨k, hk⟩ : ∃ k, k = f.length - g.length - j := ⟨_, rfl⟩
   have ek : (i : Int) - 1 - (j : Int) = (k : Int) := by omega
   rw [ek] at s11 f4
   have e5 : IntKind.i64.wrap (IntKind.i64.wrap ((k : Int) + (g.length : Int)) - 1) = ((k + g.length - 1 : Nat) : Int) := by rw [w64 (n := (k : Int) + (g.length : Int)) (by omega) (by omega), w64 (by omega) (by omega)]; omega
   have e6 : IntKind.i64.wrap ((k : Int) - 1) = (i : Int) - 1 - ((j + 1 : Nat) : Int) := by rw [w64 (by omega) (by omega)]; omega
   obtain ⟨p1, hp1, hld1⟩ := hR.sl.ix (k + g.length - 1) (by rw [mapR_len]; omega) te_Poly
   have hld1 := hld1 H2 (Ext.refl _)
   rw [mapR_len] at hp1
   rw [mapR_get] at hld1
   have kc := fun lk H' => c_Mul lk H' (xRest f g j (k + g.length - 1)) inv (ok.r _ _ (by omega)) zinv
   have hcq : xRest f g j (k + g.length - 1) * inv = xQ f g j := by rw [hinv, hk]; rfl
   rw [hcq] at kc
   have hO3 := hQ.more [⟨rC (xQ f g j), 3, false⟩]
   obtain ⟨p5, H5, q1, _, q3, q4, q5, bb, BB, hbb, _, q7⟩ := hO3.putq (lk := lk) te_Rats k (by rw [mapR_len]; omega) (by omega) (xQ f g j)
   cases hbb
   rw [mapR_len] at q1
   have hqs : mapR (fun l => if l = k then xQ f g j else xQs f g j l) i = mapR (xQs f g (j + 1)) i := mapR_congr fun l hl => by
    rw [xQs_succ f g j (by omega), ← hk]
    show (if l = k then xQ f g j else xQs f g j l) = xQs f g j l + (if l = k then xQ f g j else 0)
    by_cases h : l = k
    ·rw [if_pos h, if_pos h]
     have : xQs f g j l = 0 := by unfold xQs; rw [if_neg (by omega)]
     rw [this, Rat.zero_add]
    ·rw [if_neg h, if_neg h, Rat.add_zero]
   rw [mapR_set, hqs] at q4
   have kz := fun lk H' => c_IsZero lk H' (xQ f g j)
   have hbxN := fun N => ilive_app (N := N) hbx2
   have hbcell : ilive H5 H2.length = some ⟨rC (xQ f g j), 3, false⟩ := by
    have hne : H1.length ≠ H2.length := by omega
    rw [q7, ilive_set_ne hne]; exact ilive_new _ _
   have hbx5 : ilive H5 H'.length = some ⟨rC inv, 3, false⟩ := inv_live (hbxN _) q7 hqH
   have hR5 : Own H.length H5 (some ⟨b', 0, none⟩) (mapR (xRest f g j) f.length) := by
    rw [q7]
    refine (hR.more _).set ?_
    rintro c o e h rfl
    cases h
    omega
   have hE5 := q5 H (by omega) (hE2.more _)
   have hl5 : H5.length = H2.length + 1 := by rw [q7, List.length_set, List.length_append]; rfl
   have hlH2 : lk ≤ H2.length := by omega
   by_cases hz : xQ f g j = 0
   ·have hst : xRest f g (j + 1) = xRest f g j := by rw [xRest_succ, hz, xStep_nought]
    rw [← hst] at hR5
    rw [decide_eq_true hz] at kz
    simp -dsimp only [go_sem, s1, s6, s7, s8, s10, s11, f4, e5, hp1, hld1, hbxN, hbx2, kc, hlH2, q1, q3, hbcell, kz, e6]
    exact next (j + 1) (by show i - (j + 1) < i - j; omega) ⟨hj, hE5, by omega, hbx5, hR5, q4, s1, s6, s7, s8, s10, rfl⟩
   ·rw [decide_eq_false hz] at kz
    simp -dsimp only [go_sem, s1, s6, s7, s8, s10, s11, f4, e5, hp1, hld1, hbxN, hbx2, kc, hlH2, q1, q3, hbcell, kz]
    refine r_loop (m := fun (I : Nat) => g.length - I) (I := fun I σ H6 => I ≤ g.length ∧ Ext H H6 ∧ H6.length = H5.length ∧ ilive H6 H'.length = some ⟨rC inv, 3, false⟩ ∧ ilive H6 H2.length = some ⟨rC (xQ f g j), 3, false⟩ ∧ Own H.length H6 (some ⟨b', 0, none⟩) (mapR (xStep (xRest f g j) g k (xQ f g j) I) f.length) ∧ Own H1.length H6 (some ⟨H1.length, 0, none⟩) (mapR (xQs f g (j + 1)) i) ∧ σ 1 = .slice b g.length g.length ∧ σ 6 = .slice (some ⟨b', 0, none⟩) f.length f.length ∧ σ 7 = .int .i64 (g.length : Int) ∧ σ 8 = .slice (some ⟨H1.length, 0, none⟩) i i ∧ σ 10 = .pointer (some ⟨H'.length, 0, none⟩) ∧ σ 11 = .int .i64 (k : Int) ∧ σ 12 = .pointer (some ⟨H2.length, 0, none⟩) ∧ σ 69 = .int .i64 (g.length : Int) ∧ σ 70 = .int .i64 (I : Int)) 0 ⟨Nat.zero_le _, hE5, rfl, hbx5, hbcell, by rw [xStep_zero]; exact hR5, q4, s1, s6, s7, s8, s10, s11, rfl, rfl, rfl⟩ ?_
    clear s1 s6 s7 s8 s10 s11 σ
    rintro I σ H6 ⟨h3, hE6, hl6, hbx6, hbc6, hR6, hQ6, s1, s6, s7, s8, s10, s11, s12, s69, s70⟩
    by_cases hI : I < g.length
    ·have f5 := ltI hI
     have e9 := inc64 hI (by omega)
     have e10 : IntKind.i64.wrap ((k : Int) + (I : Int)) = ((k + I : Nat) : Int) := by rw [w64 (by omega) (by omega)]; omega
     obtain ⟨q, hq, hldq⟩ := ht.ix I hI te_Poly
     have hldq := hldq H6 hE6
     rw [← qf_lt hI] at hldq
     obtain ⟨p7, H7, r1, r2, r3, r4, r5, bb, BB, hbb, r6, r7⟩ := hR6.putq (lk := lk) te_Poly (k + I) (by rw [mapR_len]; omega) hlk (xRest f g j (k + I) - xQ f g j * qf g I)
     cases hbb
     rw [mapR_len] at r1
     rw [mapR_get, xStep_at] at r2
     rw [mapR_set, xStep_succ] at r4
     have k1 := fun lk H' => c_Mul lk H' (xQ f g j) (qf g I) (ok.c _ (by omega)) (ok.zg.qf _)
     have k2 := fun lk H' => c_Sub lk H' (xRest f g j (k + I)) (xQ f g j * qf g I) (ok.r _ _ (by omega)) (ok.p _ _ (by omega))
     simp -dsimp only [go_sem, s1, s6, s7, s8, s10, s11, s12, s69, s70, f5, hq, hldq, hbc6, e10, r1, r2, r3, k1, k2, e9]
     have hQ7 : Own H1.length H7 (some ⟨H1.length, 0, none⟩) (mapR (xQs f g (j + 1)) i) := by
      rw [r7]
      refine hQ6.set ?_
      rintro c o e h rfl
      cases h
      omega
     exact next (I + 1) (by show g.length - (I + 1) < g.length - I; omega) ⟨hI, r5 H (Nat.le_refl _) hE6, by rw [r7, List.length_set]; exact hl6, by rw [r7, ilive_set_ne (show b' ≠ H'.length by omega)]; exact hbx6, by rw [r7, ilive_set_ne (show b' ≠ H2.length by omega)]; exact hbc6, r4, hQ7, s1, s6, s7, s8, s10, s11, s12, s69, rfl⟩
    ·have hI' : I = g.length := by omega
     subst hI'
     have f5 := nltI g.length
     rw [hk, ← xRest_succ] at hR6
     simp -dsimp only [go_sem, s1, s6, s7, s8, s10, s11, s12, s69, s70, f5, e6]
     exact next (j + 1) (by show i - (j + 1) < i - j; omega) ⟨hj, hE6, by omega, hbx6, hR6, hQ6, s1, s6, s7, s8, s10, rfl⟩
  ·have hj' : j = i := by omega
   subst hj'
   have f4 : (0 ≤ (j : Int) - 1 - (j : Int)) = False := eq_false (by omega)
   have hqq : mapR (xQs f g j) j = mapR (fun l => xQ f g (f.length - g.length - l)) j := mapR_congr fun l hl => by
    unfold xQs; rw [if_pos (by omega)]
   rw [hqq] at hQ
   obtain ⟨w1, k1, k2⟩ := p_PTrimY (v := .slice (some ⟨H1.length, 0, none⟩) j j) (f := mapR (fun l => xQ f g (f.length - g.length - l)) j) (by rw [mapR_len]; omega) ⟨_, by rw [mapR_len], hQ.sl⟩ H2.length
   have hcut := hR.sl.cut (g.length - 1) (by rw [mapR_len]; omega) te_Poly H2 (Ext.refl _)
   rw [mapR_len] at hcut
   have htk : (mapR (xRest f g j) f.length).take (g.length - 1) = mapR (xRest f g j) (g.length - 1) := by
    refine List.ext_getElem (by simp [mapR]; omega) fun l h1 h2 => ?_
    rw [List.getElem_take, mapR_get, mapR_get]
   have hst := hR.sl.take (g.length - 1) (by rw [mapR_len]; omega)
   rw [htk] at hst
   obtain ⟨w2, k3, k4⟩ := p_PTrimY (v := .slice (some ⟨b', 0, none⟩) (g.length - 1) (g.length - 1)) (f := mapR (xRest f g j) (g.length - 1)) (by rw [mapR_len]; omega) ⟨_, by rw [mapR_len], hst⟩ H2.length
   simp -dsimp only [go_sem, s1, s6, s7, s8, s10, s11, f4, e3, k1, hcut, k3]
   exact ⟨hE2, w1, w2, rfl, k2, k4⟩
theorem p_Rest {H : Heap} {v w : Value} {f g : List Rat} (hv : LV H v f) (hw : LV H w g) (nf : Nrm f) (hg0 : g ≠ []) (hg : Nrm g) (ok : XdOk f g) (lf : f.length ≤ 500000) (lg : g.length ≤ 500000) :
  Yields 52 [v, w] H (fun v H' => LV H' v (pMod f g)) := by
 obtain ⟨a, rfl, hs⟩ := hv
 obtain ⟨b, rfl, ht⟩ := hw
 refine y_raw (by decide) Tryz.func52 rfl ?_
 intro lk hlk
 by_cases hlt : f.length < g.length
 ·have f1 : ((f.length : Int) < (g.length : Int)) = True := eq_true (by omega)
  have hm := pMod_small nf hlt
  simp -dsimp only [go_sem, f1]
  unfold pMod
  rw [hm]
  exact ⟨Ext.refl _, a, rfl, hs⟩
 ·have f1 : ((f.length : Int) < (g.length : Int)) = False := eq_false (by omega)
  simp -dsimp only [go_sem, f1]
  refine ob_y (p_PDivMod ⟨a, rfl, hs⟩ ⟨b, rfl, ht⟩ nf hg0 hg ok lf lg) hlk ?_
  rintro u H1 hE1 ⟨q, r, rfl, hq, hr⟩
  simp -dsimp only [go_sem]
  exact ⟨hE1, hr⟩
structure XmOk (m f g : List Rat) : Prop where
 p : MulOk f g
 d : XdOk (pMul f g) m
def valL (m f a : List Rat) : Nat → List Rat
 | 0 => []
 | j + 1 => pAdd (pMulM m (valL m f a j) a) (trm [qf f (f.length - 1 - j)])
structure ValOk (m f a : List Rat) : Prop where
 zf : SzL f
 p : ∀ j, j < f.length → XmOk m (valL m f a j) a
 z : ∀ j, j < f.length → SzL (pMulM m (valL m f a j) a)
 d : XdOk (valL m f a f.length) m
structure RQ where
 neg : Bool
 abs : List UInt8
 den : List UInt8
instance : Enc RQ := ⟨fun x => [.bool x.neg, .string (mkS x.abs), .string (mkS x.den)], 3, fun _ => rfl⟩
abbrev vQ (x : RQ) : Value := .agg (List.toArray [.bool x.neg, .string (mkS x.abs), .string (mkS x.den)])
def RQ.bad (x : RQ) : Prop := (x.abs.head? = some 0 ∨ (x.neg = true ∧ x.abs = [])) ∨ x.den.head? = some 0 ∨ x.den = []
instance (x : RQ) : Decidable x.bad := by unfold RQ.bad; infer_instance
def ckQ (x : RQ) : Int := if x.bad then 1 else if 1024 < x.abs.length ∨ 1024 < x.den.length then 4 else if Nat.gcd (bval x.abs) (bval x.den) = 1 then 0 else 1
def VQ (x : RQ) (q : Rat) : Prop := x.neg = decide (q.num < 0) ∧ x.abs = bytes q.num.natAbs ∧ x.den = bytes q.den
theorem RQ.numbers {x : RQ} (h : ¬ x.bad) : bytes (bval x.abs) = x.abs ∧ bytes (bval x.den) = x.den ∧ bval x.den ≠ 0 ∧ (x.neg = true → bval x.abs ≠ 0) := by
 have h1 : ¬ x.abs.head? = some 0 := fun h' => h (.inl (.inl h'))
 have h2 : ¬ (x.neg = true ∧ x.abs = []) := fun h' => h (.inl (.inr h'))
 have h3 : ¬ x.den.head? = some 0 := fun h' => h (.inr (.inl h'))
 have h4 : ¬ x.den = [] := fun h' => h (.inr (.inr h'))
 have b1 : bytes (bval x.abs) = x.abs := bytes_bval _ (fun y hy h0 => by subst h0; exact h1 hy)
 have b2 : bytes (bval x.den) = x.den := bytes_bval _ (fun y hy h0 => by subst h0; exact h3 hy)
 exact ⟨b1, b2, fun h0 => h4 (by rw [← b2, bytes_eq_nil]; exact h0), fun hn h0 => h2 ⟨hn, by rw [← b1, bytes_eq_nil]; exact h0⟩⟩
theorem ckQ_zero {x : RQ} (h : ckQ x = 0) : ∃ q, VQ x q ∧ Sm 1024 q := by
 unfold ckQ at h
 by_cases hb : x.bad
 ·rw [if_pos hb] at h; omega
 ·rw [if_neg hb] at h
  by_cases hl : 1024 < x.abs.length ∨ 1024 < x.den.length
  ·rw [if_pos hl] at h; omega
  ·rw [if_neg hl] at h
   by_cases hg : Nat.gcd (bval x.abs) (bval x.den) = 1
   ·obtain ⟨b1, b2, b3, b4⟩ := RQ.numbers hb
    have hn : (sg x.neg (bval x.abs)).natAbs = bval x.abs := sg_natAbs _ _
    refine ⟨⟨sg x.neg (bval x.abs), bval x.den, b3, by rw [hn]; exact hg⟩, ⟨?_, ?_, b2.symm⟩, ?_, ?_⟩
    ·show x.neg = decide (sg x.neg (bval x.abs) < 0)
     unfold sg
     cases hx : x.neg with
     | false => rw [if_neg (by decide)]; exact (decide_eq_false (by omega)).symm
     | true => rw [if_pos rfl]; have := b4 hx; exact (decide_eq_true (by omega)).symm
    ·show x.abs = bytes (sg x.neg (bval x.abs)).natAbs
     rw [hn, b1]
    ·show (bytes (sg x.neg (bval x.abs)).natAbs).length ≤ 1024
     rw [hn, b1]; omega
    ·show (bytes (bval x.den)).length ≤ 1024
     rw [b2]; omega
   ·rw [if_neg hg] at h; omega
theorem VQ.ck {x : RQ} {q : Rat} (h : VQ x q) (hs : Sm 1024 q) : ckQ x = 0 := by
 obtain ⟨h1, h2, h3⟩ := h
 have hb : ¬ x.bad := by
  rintro ((h | ⟨h, h'⟩) | h | h)
  ·rw [h2] at h; exact bytes_ne_zero _ _ h rfl
  ·rw [h1] at h
   rw [h2, bytes_eq_nil] at h'
   have := of_decide_eq_true h
   omega
  ·rw [h3] at h; exact bytes_ne_zero _ _ h rfl
  ·rw [h3, bytes_eq_nil] at h; exact q.den_nz h
 unfold ckQ
 rw [if_neg hb, h2, h3, if_neg (by have := hs.n; have := hs.d; omega), bval_bytes, bval_bytes, if_pos q.reduced]
theorem p_ratCheckQ (lk : Nat) (H : Heap) (x : RQ) : gcall Tryz.prog md lk 180 [vQ x] H = some (.int .i64 (ckQ x), H) := by
 refine gcall_val rfl Tryz.func180 rfl rfl ?_
 have k1 := fun lk H' => p_intCheck lk H' ⟨x.neg, x.abs⟩
 have k2 := fun lk H' => p_natCheck lk H' x.den
 have one : [1] = bytes 1 := bytes_one.symm
 simp only [ckI] at k1
 unfold ckQ
 by_cases b1 : x.abs.head? = some 0 ∨ (x.neg = true ∧ x.abs = [])
 ·have hb : x.bad := .inl b1
  rw [if_pos b1] at k1
  rw [if_pos hb]
  simp -dsimp only [go_sem, k1, k2]
 rw [if_neg b1] at k1
 by_cases b2 : x.den.head? = some 0
 ·have hb : x.bad := .inr (.inl b2)
  rw [if_pos b2] at k2
  rw [if_pos hb]
  by_cases hl : 1024 < x.abs.length
  ·rw [if_pos hl] at k1
   simp -dsimp only [go_sem, k1, k2]
  ·rw [if_neg hl] at k1
   simp -dsimp only [go_sem, k1, k2]
 rw [if_neg b2] at k2
 by_cases b3 : x.den = []
 ·have hb : x.bad := .inr (.inr b3)
  have b3' : (x.den = []) = True := eq_true b3
  rw [if_pos hb]
  rw [if_neg (by rw [b3]; simp)] at k2
  by_cases hl : 1024 < x.abs.length
  ·rw [if_pos hl] at k1
   simp -dsimp only [go_sem, k1, k2, b3']
  ·rw [if_neg hl] at k1
   simp -dsimp only [go_sem, k1, k2, b3']
 have hb : ¬ x.bad := by rintro (h | h | h) <;> contradiction
 have b3' : (x.den = []) = False := eq_false b3
 rw [if_neg hb]
 by_cases hl : 1024 < x.abs.length
 ·rw [if_pos hl] at k1
  rw [if_pos (.inl hl)]
  by_cases hl2 : 1024 < x.den.length
  ·rw [if_pos hl2] at k2
   simp -dsimp only [go_sem, k1, k2, b3']
  ·rw [if_neg hl2] at k2
   simp -dsimp only [go_sem, k1, k2, b3']
 rw [if_neg hl] at k1
 by_cases hl2 : 1024 < x.den.length
 ·rw [if_pos hl2] at k2
  rw [if_pos (.inr hl2)]
  simp -dsimp only [go_sem, k1, k2, b3']
 rw [if_neg hl2] at k2
 rw [if_neg (by omega)]
 obtain ⟨c1, c2, c3, c4⟩ := RQ.numbers hb
 have k3 := fun lk H' => c_NatGcd lk H' (bval x.abs) (bval x.den) (by rw [c1]; omega) (by rw [c2]; omega)
 rw [c1, c2] at k3
 have d1 : (x.den = bytes 1) = (bval x.den = 1) := by rw [← c2, bytes_inj, c2]
 by_cases hd1 : bval x.den = 1
 ·have f1 : (bval x.den = 1) = True := eq_true hd1
  rw [if_pos (by rw [hd1, Nat.gcd_one_right])]
  simp -dsimp only [go_sem, k1, k2, b3', one, d1, f1]
 ·have f1 : (bval x.den = 1) = False := eq_false hd1
  by_cases hg : Nat.gcd (bval x.abs) (bval x.den) = 1
  ·have f2 : (Nat.gcd (bval x.abs) (bval x.den) = 1) = True := eq_true hg
   rw [if_pos hg]
   simp -dsimp only [go_sem, k1, k2, b3', one, d1, f1, k3, f2]
  ·have f2 : (Nat.gcd (bval x.abs) (bval x.den) = 1) = False := eq_false hg
   rw [if_neg hg]
   simp -dsimp only [go_sem, k1, k2, b3', one, d1, f1, k3, f2]
theorem r3_FitsQ (lk : Nat) (H : Heap) (x : RQ) : gcall Tryz.prog md lk 183 [vQ x] H = some (.int .i64 (if 1024 < x.abs.length ∨ 1024 < x.den.length then 4 else 0), H) := by
 refine gcall_val rfl Tryz.func183 rfl rfl ?_
 have q1 := fun lk H' => r2_Fits lk H' ⟨x.neg, x.abs⟩
 have q2 := fun lk H' => r1_Fits lk H' x.den
 by_cases hl : 1024 < x.abs.length
 ·simp only [if_pos hl] at q1
  rw [if_pos (.inl hl)]
  simp -dsimp only [go_sem, q1, q2]
 ·simp only [if_neg hl] at q1
  by_cases hl2 : 1024 < x.den.length
  ·simp only [if_pos hl2] at q2
   rw [if_pos (.inr hl2)]
   simp -dsimp only [go_sem, q1, q2]
  ·simp only [if_neg hl2] at q2
   rw [if_neg (by omega)]
   simp -dsimp only [go_sem, q1, q2]
theorem r3_CheckQ (lk : Nat) (H : Heap) (x : RQ) : gcall Tryz.prog md lk 122 [vQ x] H = some (.int .i64 (ckQ x), H) := by
 refine gcall_val rfl Tryz.func122 rfl rfl ?_
 have k1 := fun lk H' => r2_Valid lk H' ⟨x.neg, x.abs⟩
 have k2 := fun lk H' => r1_Valid lk H' x.den
 have kf := fun lk H' => r3_FitsQ lk H' x
 have one : [1] = bytes 1 := bytes_one.symm
 unfold ckQ
 by_cases b1 : x.abs.head? = some 0 ∨ (x.neg = true ∧ x.abs = [])
 ·have e : (decide (x.abs.head? ≠ some 0) && (!x.neg || decide (x.abs ≠ []))) = false := by
   rcases b1 with h | ⟨h, h'⟩
   ·simp [h]
   ·simp [h, h']
  simp only [e] at k1
  rw [if_pos (show x.bad from .inl b1)]
  simp -dsimp only [go_sem, k1, k2]
 have e : (decide (x.abs.head? ≠ some 0) && (!x.neg || decide (x.abs ≠ []))) = true := by
  have h1 : ¬ x.abs.head? = some 0 := fun h => b1 (.inl h)
  have h2 : ¬ (x.neg = true ∧ x.abs = []) := fun h => b1 (.inr h)
  cases hn : x.neg with
  | false => simp [h1]
  | true =>
   have : x.abs ≠ [] := fun h => h2 ⟨hn, h⟩
   simp [h1, this]
 simp only [e] at k1
 by_cases b2 : x.den.head? = some 0
 ·rw [decide_eq_false (fun h => h b2)] at k2
  rw [if_pos (show x.bad from .inr (.inl b2))]
  simp -dsimp only [go_sem, k1, k2]
 rw [decide_eq_true b2] at k2
 by_cases b3 : x.den = []
 ·have b3' : (x.den = []) = True := eq_true b3
  rw [if_pos (show x.bad from .inr (.inr b3))]
  simp -dsimp only [go_sem, k1, k2, b3']
 have hb : ¬ x.bad := by rintro (h | h | h) <;> contradiction
 have b3' : (x.den = []) = False := eq_false b3
 rw [if_neg hb]
 by_cases hl : 1024 < x.abs.length ∨ 1024 < x.den.length
 ·rw [if_pos hl] at kf ⊢
  simp -dsimp only [go_sem, k1, k2, b3', kf]
 rw [if_neg hl] at kf ⊢
 obtain ⟨c1, c2, c3, c4⟩ := RQ.numbers hb
 have k3 := fun lk H' => r1_Gcd lk H' (bval x.abs) (bval x.den) (by rw [c1]; omega) (by rw [c2]; omega)
 rw [c1, c2] at k3
 by_cases hg : Nat.gcd (bval x.abs) (bval x.den) = 1
 ·have f2 : (Nat.gcd (bval x.abs) (bval x.den) = 1) = True := eq_true hg
  rw [if_pos hg]
  simp -dsimp only [go_sem, k1, k2, b3', one, kf, k3, f2, bytes_inj]
 ·have f2 : (Nat.gcd (bval x.abs) (bval x.den) = 1) = False := eq_false hg
  rw [if_neg hg]
  simp -dsimp only [go_sem, k1, k2, b3', one, kf, k3, f2, bytes_inj]
end Gx
end
